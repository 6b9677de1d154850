/-
  Regions whose order is drawn: every schedule. Plain lemmas, about no function of the program.
  Conditions: those typed in each theorem.
-/
import Derived.Test.YtdliejnmpdodhaaVd2
namespace Go.Proofs.Ytdliejnmpdodhaa
open Go.RowKit Go.ChangeShapes Go.WideShapes
set_option linter.unusedVariables false

theorem zip_all {α : Type} {l : List α} {p : α × Nat → Bool} (h : l.zipIdx.all p = true) {i : Nat} {o : α} (ho : l[i]? = some o) : p (o, i) = true := by
  rw [List.all_eq_true] at h
  exact h (o, i) (List.mem_zipIdx_iff_getElem?.2 ho)
section
variable {P : Program} {m : Mode} {w0 : Base} {w w' : World} {φ φ' : Hdrs} {σ σ' : St} {a : Act} {sl sl' : List Slot} {Fs Fs' : List (List Nat)} {ops : Array Oper} {l : List Oper}
/-! ### The checks -/
structure Drawn (l : List Oper) : Prop where
  edge : ∀ {j : Nat} {o : Oper}, l[j]? = some o → ∀ e ∈ o.after.toList, plainEdge e = true → e.on < j
  soft : ∀ {j : Nat} {o : Oper}, l[j]? = some o → ∀ e ∈ o.after.toList, plainEdge e = false → softOk l j e = true
  clash : ∀ {i j : Nat} {oi oj : Oper}, i < j → l[i]? = some oi → l[j]? = some oj → clash oi oj = true → i ∈ depsOf oj
  guard : ∀ {j g : Nat} {b : Bool} {o : Oper}, l[j]? = some o → o.guard = some (g, b) → g < j ∧ g ∈ depsOf o ∧ ∀ {og : Oper}, l[g]? = some og → ∀ {i : Nat} {o2 : Oper}, l[i]? = some o2 → o2.dst = og.dst → og.dst ≠ none → i = g
  tail : ∀ {i j : Nat}, quietLen l ≤ j → j < l.length → i < j → ((bitsAll l).getD j 0).testBit i = true
theorem bits_step (l : List Oper) (o : Oper) : bitsAll (l ++ [o]) = bitsAll l ++ [bitsOf (bitsAll l) o] := by simp [bitsAll]
theorem bits_len : ∀ (n : Nat) (l : List Oper), l.length = n → (bitsAll l).length = n
  | 0, l, h => by rw [List.eq_nil_of_length_eq_zero h]; rfl
  | n + 1, l, h => by
    obtain ⟨l', o, rfl⟩ : ∃ l' o, l = l' ++ [o] := ⟨l.dropLast, l.getLast (by intro e; rw [e] at h; cases h), (List.dropLast_concat_getLast _).symm⟩
    rw [bits_step, List.length_append, bits_len n l' (by simpa using h)]
    rfl
theorem bits_pre (l' : List Oper) : ∀ (n : Nat) (l : List Oper), l.length = n → ∃ r, bitsAll (l' ++ l) = bitsAll l' ++ r
  | 0, l, h => ⟨[], by rw [List.eq_nil_of_length_eq_zero h]; simp⟩
  | n + 1, l, h => by
    obtain ⟨l2, o, rfl⟩ : ∃ l2 o, l = l2 ++ [o] := ⟨l.dropLast, l.getLast (by intro e; rw [e] at h; cases h), (List.dropLast_concat_getLast _).symm⟩
    obtain ⟨r, hr⟩ := bits_pre l' n l2 (by simpa using h)
    rw [← List.append_assoc, bits_step, hr, List.append_assoc]
    exact ⟨_, rfl⟩
theorem bits_at {j : Nat} {o : Oper} (h : l[j]? = some o) : (bitsAll l).getD j 0 = bitsOf (bitsAll (l.take j)) o ∧ ∀ d, d < j → (bitsAll (l.take j)).getD d 0 = (bitsAll l).getD d 0 := by
  have hj := (List.getElem?_eq_some_iff.1 h).1
  have e : l = l.take j ++ o :: l.drop (j + 1) := by
    have := List.drop_eq_getElem_cons hj
    rw [List.getElem?_eq_getElem hj] at h
    rw [Option.some.inj h] at this
    rw [← this, List.take_append_drop]
  have hlen : (bitsAll (l.take j)).length = j := bits_len j _ (by simp; omega)
  obtain ⟨r, hr⟩ := bits_pre (l.take j ++ [o]) _ (l.drop (j + 1)) rfl
  have e2 : bitsAll l = bitsAll (l.take j) ++ ([bitsOf (bitsAll (l.take j)) o] ++ r) := by
    conv => lhs; rw [e]
    rw [show l.take j ++ o :: l.drop (j + 1) = (l.take j ++ [o]) ++ l.drop (j + 1) by simp, hr, bits_step, List.append_assoc]
  constructor
  · rw [e2, List.getD_eq_getElem?_getD, List.getElem?_append_right (by omega), hlen]
    simp
  · intro d hd
    rw [e2, List.getD_eq_getElem?_getD, List.getD_eq_getElem?_getD, List.getElem?_append_left (by omega)]
theorem bits_test {bm : List Nat} {o : Oper} {i : Nat} (h : (bitsOf bm o).testBit i = true) : ∃ d ∈ depsOf o, d = i ∨ (bm.getD d 0).testBit i = true := by
  unfold bitsOf at h
  have key : ∀ (ds : List Nat) (s : Nat), ((ds.foldl (fun s d => s ||| 2 ^ d ||| bm.getD d 0) s).testBit i = true) → s.testBit i = true ∨ ∃ d ∈ ds, d = i ∨ (bm.getD d 0).testBit i = true := by
    intro ds
    induction ds with
    | nil => intro s h; exact .inl h
    | cons d ds ih =>
      intro s h
      rw [List.foldl_cons] at h
      rcases ih _ h with h1 | ⟨d', hd', h1⟩
      · rw [Nat.testBit_or, Nat.testBit_or, Bool.or_eq_true, Bool.or_eq_true] at h1
        rcases h1 with (h1 | h1) | h1
        · exact .inl h1
        · rw [Nat.testBit_two_pow] at h1
          exact .inr ⟨d, by simp, .inl (by simpa using h1)⟩
        · exact .inr ⟨d, by simp, .inr h1⟩
      · exact .inr ⟨d', by simp [hd'], h1⟩
  rcases key _ _ h with h1 | h1
  · simp at h1
  · exact h1
/-- Ancestors are in every set that holds what its members wait for. -/
theorem bits_in (hd : ∀ {j : Nat} {o : Oper}, l[j]? = some o → ∀ d ∈ depsOf o, d < j) {c : Nat → Bool} (hc : ∀ {j : Nat} {o : Oper}, c j = true → l[j]? = some o → ∀ d ∈ depsOf o, c d = true) : ∀ (j : Nat) {o : Oper} {i : Nat}, l[j]? = some o → (∀ d ∈ depsOf o, c d = true) → ((bitsAll l).getD j 0).testBit i = true → c i = true := by
  intro j
  induction j using Nat.strongRecOn with
  | _ j ih =>
    intro o i ho hdep hb
    obtain ⟨h1, h2⟩ := bits_at ho
    rw [h1] at hb
    obtain ⟨d, hdm, hd'⟩ := bits_test hb
    have hlt := hd ho d hdm
    rcases hd' with rfl | hb2
    · exact hdep _ hdm
    · rw [h2 d hlt] at hb2
      have hdl : l[d]? = some (l[d]'(by have := (List.getElem?_eq_some_iff.1 ho).1; omega)) := List.getElem?_eq_getElem _
      exact ih d hlt hdl (hc (hdep d hdm) hdl) hb2
theorem drawn_of (h : drawOk ops = true) : Drawn ops.toList := by
  unfold drawOk at h
  simp only [Bool.and_eq_true] at h
  obtain ⟨⟨⟨h1, h2⟩, h3⟩, h4⟩ := h
  refine ⟨fun {j o} ho e he hp => ?_, fun {j o} ho e he hp => ?_, fun {i j oi oj} hij hi hj hcl => ?_, fun {j g b o} ho hg => ?_, fun {i j} hk hj hij => ?_⟩
  · have := zip_all h1 ho
    simp only [List.all_eq_true] at this
    have := this e he
    rw [if_pos hp] at this
    simpa using this
  · have := zip_all h1 ho
    simp only [List.all_eq_true] at this
    have := this e he
    rw [if_neg (by simp [hp])] at this
    exact this
  · have := zip_all h2 hj
    have h5 : (!Go.Proofs.Ytdliejnmpdodhaa.clash oi oj || (depsOf oj).contains i) = true := zip_all this (i := i) (o := oi) (by rw [List.getElem?_take, if_pos hij]; exact hi)
    rw [hcl] at h5
    simpa using h5
  · have := zip_all h3 ho
    simp only [hg, Bool.and_eq_true, decide_eq_true_eq] at this
    obtain ⟨⟨k1, k2⟩, k3⟩ := this
    refine ⟨k1, by simpa using k2, fun {og} hog {i o2} hi hd hn => ?_⟩
    have := zip_all k3 hi
    simp only [hog, Bool.or_eq_true, decide_eq_true_eq, Bool.not_eq_true', beq_eq_false_iff_ne, ne_eq] at this
    rcases this with (h | h) | h
    · exact h
    · rw [Option.isNone_iff_eq_none] at h; exact absurd h hn
    · exact absurd hd h
  · have hl : j < (bitsAll ops.toList).length := by rw [bits_len _ _ rfl]; exact hj
    have := zip_all h4 (i := j) (o := (bitsAll ops.toList)[j]) (List.getElem?_eq_getElem hl)
    simp only [Bool.or_eq_true, decide_eq_true_eq, List.all_eq_true, List.mem_range] at this
    rcases this with h | h
    · omega
    · rw [List.getD_eq_getElem?_getD, List.getElem?_eq_getElem hl]
      exact h i hij
theorem Drawn.deps (hd : Drawn l) {j : Nat} {o : Oper} (ho : l[j]? = some o) : ∀ d ∈ depsOf o, d < j := by
  intro d h
  unfold depsOf at h
  obtain ⟨e, he, rfl⟩ := List.mem_map.1 h
  obtain ⟨he, hp⟩ := List.mem_filter.1 he
  exact hd.edge ho e he hp
theorem quiet_of {i : Nat} {o : Oper} (h : i < quietLen l) (ho : l[i]? = some o) : quietOp o = true := by
  unfold quietLen at h
  have h1 : (l.takeWhile quietOp)[i]? = some o := by
    have hp := List.takeWhile_prefix (p := quietOp) (l := l)
    obtain ⟨r, hr⟩ := hp
    rw [← hr, List.getElem?_append_left h] at ho
    exact ho
  exact List.all_eq_true.1 List.all_takeWhile _ (List.mem_of_getElem? h1)
theorem quietLen_le : quietLen l ≤ l.length := by
  unfold quietLen
  exact (List.takeWhile_prefix (p := quietOp) (l := l)).length_le

/-! ### One operation, out of order -/
theorem VR.undef {G : Nat → Prop} {v : Value} (h : VR w G φ sl (.tup []) v) : v = Go.undef := by
  cases h with
  | tup hl h =>
    rename_i vs
    obtain rfl : vs = [] := List.eq_nil_of_length_eq_zero hl
    rfl
theorem vr_undef {G : Nat → Prop} : VR w G φ sl (.tup []) Go.undef := .tup (vs := []) rfl (fun i x v h => by simp at h)
theorem VR.named {G : Nat → Prop} {x : V} {v : Value} (h : VR w G φ sl x v) : ∀ s ∈ namesV x, sl[s]? ≠ some .unborn := by
  have one : ∀ {x v}, VR w G φ sl x v → ∀ s ∈ names0 x, sl[s]? ≠ some .unborn := by
    intro x v h s hs e
    cases h with
    | ref h1 => simp [names0] at hs; subst hs; rw [h1] at e; cases e
    | gone h1 => simp [names0] at hs; subst hs; rw [h1] at e; cases e
    | lit h1 => simp [names0] at hs; subst hs; rw [h1] at e; cases e
    | litgone h1 => simp [names0] at hs; subst hs; rw [h1] at e; cases e
    | ptr h1 h2 => simp [names0] at hs; subst hs; rw [h1] at e; cases e; exact h2
    | lost h1 => simp [names0] at hs; subst hs; rw [h1] at e; cases e
    | eptr h1 => simp [names0] at hs; subst hs; rw [h1] at e; cases e
    | elost h1 => simp [names0] at hs; subst hs; rw [h1] at e; cases e
    | _ => simp [names0] at hs
  have two : ∀ {x v}, VR w G φ sl x v → ∀ s ∈ names1 x, sl[s]? ≠ some .unborn := by
    intro x v h s hs
    cases x with
    | agg xs =>
      cases h with
      | agg hl h1 hv =>
        rename_i vs
        simp only [names1, List.mem_flatMap] at hs
        obtain ⟨y, hy, hs⟩ := hs
        obtain ⟨i, hi, rfl⟩ := List.mem_iff_getElem.1 hy
        exact one (hv i _ _ (List.getElem?_eq_getElem hi) (List.getElem?_eq_getElem (by omega))) s hs
    | _ => exact one h s hs
  intro s hs
  cases x with
  | fn f xs =>
    cases h with
    | fn hl hv =>
      rename_i vs
      simp only [namesV, List.mem_flatMap] at hs
      obtain ⟨y, hy, hs⟩ := hs
      obtain ⟨i, hi, rfl⟩ := List.mem_iff_getElem.1 hy
      exact two (hv i _ _ (List.getElem?_eq_getElem hi) (List.getElem?_eq_getElem (by omega))) s hs
  | _ => exact two h s hs
theorem step_quiet (hst : w0.st = m.st) {tr : List Tr} {T0 : List V} {S0 : List Slot} {k : Nat} {c : Nat → Bool} {i : Nat} {o : Oper} (hops : ops.toList = l) (hd : Drawn l) (hcan : Canon P m ops l tr T0 S0) (hk : tr.length = k) (hi : i < k) (ho : l[i]? = some o) (hci : c i = false) (hck : ∀ j, c j = true → j < k)
    (hclosed : ∀ {j : Nat} {o : Oper}, c j = true → l[j]? = some o → ∀ d ∈ depsOf o, c d = true) (hready : ∀ d ∈ depsOf o, c d = true) (hr : Rel P w0 φ ⟨TT tr T0 c k, SS tr S0 c k⟩ a w) {KC : Act → World → Prop} {Q : Exit → Act → World → Prop}
    (hK : ∀ φ' a' w', Rel P w0 φ' ⟨TT tr T0 (plus c i) k, SS tr S0 (plus c i) k⟩ a' w' → KC a' w') :
    if Region.wanted o (yielded ops a.tmps) = true then o.wp P a w KC Q else KC (a.put o.dst undef) w := by
  have he : tr[i]? = some (tr[i]'(by omega)) := List.getElem?_eq_getElem _
  generalize tr[i]'(by omega) = e at he
  obtain ⟨hdst, hor⟩ := hcan.2 i o e ho he
  have hdi := hd.deps ho
  -- what a temporary holds
  have temp : ∀ t, (∀ j, j < k → ∀ oj, l[j]? = some oj → oj.dst = some t → (c j = true ↔ j < i)) → (TT tr T0 c k)[t]? = (TT tr T0 always i)[t]? := by
    intro t ht
    have e1 : (TT tr T0 c k)[t]? = (TT tr T0 (fun j => decide (j < i)) k)[t]? := TT_congr k fun j hj e' he' hd' => by
      have hjl : l[j]? = some (l[j]'(by have := hcan.1; omega)) := List.getElem?_eq_getElem _
      obtain ⟨hdj, _⟩ := hcan.2 j _ e' hjl he'
      have := ht j hj _ hjl (by rw [← hdj]; exact hd')
      by_cases h : j < i
      · simp [h, this.2 h]
      · have h2 : c j = false := by cases hcj : c j with | false => rfl | true => exact absurd (this.1 hcj) h
        simp [h, h2]
    have e2 : TT tr T0 (fun j => decide (j < i)) k = TT tr T0 (fun j => decide (j < i)) i := TT_stop k (by omega) fun j h1 _ => by
      have : ¬ j < i := by omega
      simp [this]
    have e3 : TT tr T0 (fun j => decide (j < i)) i = TT tr T0 always i := TT_same i fun j hj => by simp [hj, always]
    rw [e1, e2, e3]
  have oper : ∀ t, t ∈ readsT o → (TT tr T0 c k)[t]? = (TT tr T0 always i)[t]? := by
    intro t ht
    refine temp t fun j hj oj hoj hdj => ?_
    constructor
    · intro hcj
      rcases Nat.lt_trichotomy j i with h | h | h
      · exact h
      · subst h; rw [hci] at hcj; cases hcj
      · have hcl : clash o oj = true := by
          unfold clash
          cases hod : o.dst with
          | none => simp only [hdj]; simpa using ht
          | some q => simp only [hdj]; simp [ht]
        have := hclosed hcj hoj i (hd.clash h ho hoj hcl)
        rw [hci] at this; cases this
    · intro hji
      have hcl : clash oj o = true := by
        unfold clash
        rw [hdj]
        cases hod : o.dst with
        | none => simpa using ht
        | some q => simp [ht]
      exact hready j (hd.clash hji hoj ho hcl)
  have hev : ∀ x ∈ o.op.operands.toList, (⟨TT tr T0 c k, SS tr S0 c k⟩ : St).eval x = (⟨TT tr T0 always i, SS tr S0 always i⟩ : St).eval x := by
    intro x hx
    cases x with
    | tmp t =>
      show ((TT tr T0 c k)[t]?).getD .any = ((TT tr T0 always i)[t]?).getD .any
      rw [oper t (by unfold readsT; exact List.mem_filterMap.2 ⟨.tmp t, hx, rfl⟩)]
    | _ => rfl
  -- the guard
  have hguard : guardA ops (TT tr T0 c k) o = guardA ops (TT tr T0 always i) o := by
    unfold guardA
    cases hg : o.guard with
    | none => rfl
    | some gb =>
      obtain ⟨g, b⟩ := gb
      obtain ⟨g1, g2, g3⟩ := hd.guard ho hg
      have hgl : l[g]? = some (l[g]'(by have := (List.getElem?_eq_some_iff.1 ho).1; omega)) := List.getElem?_eq_getElem _
      generalize l[g]'(by have := (List.getElem?_eq_some_iff.1 ho).1; omega) = og at hgl
      have hog : ops[g]? = some og := by rw [← Array.getElem?_toList, hops]; exact hgl
      simp only [hog, Option.bind_some]
      cases hod : og.dst with
      | none => rfl
      | some d =>
        have := temp d fun j hj oj hoj hdj => by
          have hjg := g3 hgl hoj (by rw [hdj, hod]) (by rw [hod]; simp)
          subst hjg
          exact ⟨fun _ => g1, fun _ => hready j g2⟩
        simp only [this]
  have hwanted : ∀ t, guardA ops (TT tr T0 c k) o = some t → Region.wanted o (yielded ops a.tmps) = t := by
    intro t ht
    unfold guardA at ht
    unfold Region.wanted
    cases hg : o.guard with
    | none => rw [hg] at ht; simpa using ht
    | some gb =>
      obtain ⟨g, b⟩ := gb
      rw [hg] at ht
      simp only at ht ⊢
      split at ht
      · rename_i d hdd
        split at ht
        · rename_i t' ht'
          have hv := hr.eval (.tmp d)
          have hget : (⟨TT tr T0 c k, SS tr S0 c k⟩ : St).eval (.tmp d) = .d (.bool t') := ht'
          rw [hget] at hv
          have hv' := hv.bool
          have hl : d < a.tmps.size := by
            rcases Nat.lt_or_ge d a.tmps.size with h | h
            · exact h
            · have : a.eval (.tmp d) = undef := by show a.tmps.getD d undef = _; simp [Array.getD, Nat.not_lt.2 h]
              rw [this] at hv'; cases hv'
          have hy : yielded ops a.tmps g = some t' := by
            unfold yielded
            rw [hdd]
            have : a.tmps[d]? = some (.bool t') := by
              rw [Array.getElem?_eq_getElem hl]
              have : a.eval (.tmp d) = a.tmps[d] := by show a.tmps.getD d undef = _; simp [Array.getD, hl]
              rw [← this, hv']
            simp [this]
          rw [hy]
          simpa using ht
        · rename_i ht'
          have hv := hr.eval (.tmp d)
          have hget : (⟨TT tr T0 c k, SS tr S0 c k⟩ : St).eval (.tmp d) = .tup [] := ht'
          rw [hget] at hv
          have hv' := hv.undef
          have hy : yielded ops a.tmps g = none := by
            unfold yielded
            rw [hdd]
            cases hq : a.tmps[d]? with
            | none => simp [hq]
            | some u =>
              have : a.eval (.tmp d) = u := by show a.tmps.getD d undef = _; rw [Array.getD_eq_getD_getElem?, hq]; rfl
              rw [this] at hv'
              subst hv'
              simp [hq, undef]
          rw [hy]
          simpa using ht
        · cases ht
      · cases ht
  -- the new state's temporaries
  have hT : putL (TT tr T0 c k) o.dst e.x = TT tr T0 (plus c i) k := by
    rw [← hdst]
    refine TT_put hi he fun j hij hj e' he' hd' hn => ?_
    cases hcj : c j with
    | false => rfl
    | true =>
      have hjl : l[j]? = some (l[j]'(by have := hcan.1; omega)) := List.getElem?_eq_getElem _
      obtain ⟨hdj, _⟩ := hcan.2 j _ e' hjl he'
      have hcl : clash o (l[j]'(by have := hcan.1; omega)) = true := by
        unfold clash
        cases hod : o.dst with
        | none => rw [hdst, hod] at hn; exact absurd rfl hn
        | some q =>
          have : (l[j]'(by have := hcan.1; omega)).dst = some q := by rw [← hdj, hd', hdst, hod]
          simp [this]
      have := hclosed hcj hjl i (hd.clash hij ho hjl hcl)
      rw [hci] at this; cases this
  obtain ⟨hS1, hS2, hS3⟩ := SS_put (S0 := S0) hi he hci
  rcases hor with ⟨hg, haq⟩ | ⟨hg, hx, hnews⟩
  · rw [if_pos (hwanted true (by rw [hguard]; exact hg))]
    have hsame : SameFor o ⟨TT tr T0 always i, SS tr S0 always i⟩ ⟨TT tr T0 c k, SS tr S0 c k⟩ := ⟨hev, fun x hx s hs y hy => by
      rcases SS_known' (c := c) (Nat.le_of_lt hi) hy with h | h
      · exact h
      · have hv := hr.eval x
        rw [hev x hx] at hv
        exact absurd h (hv.named s hs)⟩
    refine aq_sound hst (aq_mono haq hsame) hr fun v w' hq => ?_
    obtain ⟨Fs, hm⟩ := hr.mem
    obtain ⟨φ', ht, hv⟩ := turn_born hm hq hS2 hS3
    have := hr.turn ht hv o.dst
    rw [put_putL, hT] at this
    simp only [hS1] at this
    exact hK φ' _ _ this
  · rw [if_neg (by rw [hwanted false (by rw [hguard]; exact hg)]; simp)]
    have := hr.turn (Turn.refl hr.mem) vr_undef o.dst
    rw [put_putL] at this
    rw [hx] at hT
    rw [hT] at this
    have hS : SS tr S0 c k = SS tr S0 (plus c i) k := by
      rw [← hS1, hnews]
      simp [putAt]
    simp only [hS] at this
    exact hK φ _ _ this
end
end Go.Proofs.Ytdliejnmpdodhaa
