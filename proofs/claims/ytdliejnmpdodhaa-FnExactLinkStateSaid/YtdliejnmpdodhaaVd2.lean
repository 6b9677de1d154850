/-
  Regions whose order is drawn: whatever the order, the state at the end is the one of the text's order. Plain lemmas, about no function of the program.
  Conditions: those typed in each theorem.
-/
import Derived.Test.YtdliejnmpdodhaaVd1
namespace Go.Proofs.Ytdliejnmpdodhaa
open Go.RowKit Go.ChangeShapes Go.WideShapes
set_option linter.unusedVariables false

/-- What an operation gave: its temporary, the value, the slots. -/
structure Tr where
  dst : Option Nat
  x : V
  news : List Slot
def putL (T : List V) (d : Option Nat) (x : V) : List V :=
  match d with
  | some d => T.set d x
  | none => T
section
variable (tr : List Tr) (T0 : List V) (S0 : List Slot) (c : Nat → Bool)
/-- The temporaries when of the first i operations those of c have run. -/
def TT : Nat → List V
  | 0 => T0
  | i + 1 => match tr[i]? with
    | some e => if c i = true then putL (TT i) e.dst e.x else TT i
    | none => TT i
/-- The slots then: those of the others are not yet made. -/
def SS : Nat → List Slot
  | 0 => S0
  | i + 1 => match tr[i]? with
    | some e => SS i ++ (if c i = true then e.news else List.replicate e.news.length .unborn)
    | none => SS i
end
def always (_ : Nat) : Bool := true
def plus (c : Nat → Bool) (i : Nat) (j : Nat) : Bool := j == i || c j
section
variable {tr : List Tr} {T0 : List V} {S0 : List Slot} {c c' : Nat → Bool}
theorem putL_len (T : List V) (d : Option Nat) (x : V) : (putL T d x).length = T.length := by cases d <;> simp [putL]
theorem TT_len : ∀ i, (TT tr T0 c i).length = T0.length
  | 0 => rfl
  | i + 1 => by
    unfold TT
    split
    · split
      · rw [putL_len, TT_len i]
      · exact TT_len i
    · exact TT_len i
theorem putL_other {T : List V} {d : Option Nat} {x : V} {t : Nat} (h : d ≠ some t) : (putL T d x)[t]? = T[t]? := by
  cases d with
  | none => rfl
  | some d => exact List.getElem?_set_ne (fun e => h (by rw [e]))
theorem TT_congr {t : Nat} : ∀ i, (∀ j, j < i → ∀ e, tr[j]? = some e → e.dst = some t → c j = c' j) → (TT tr T0 c i)[t]? = (TT tr T0 c' i)[t]?
  | 0, _ => rfl
  | i + 1, h => by
    have ih := TT_congr i (fun j hj => h j (by omega))
    unfold TT
    split
    · rename_i e he
      by_cases hd : e.dst = some t
      · rw [← h i (by omega) e he hd]
        split
        · rw [hd]
          by_cases hl : t < T0.length
          · have e1 : t < (TT tr T0 c i).length := by rw [TT_len]; exact hl
            have e2 : t < (TT tr T0 c' i).length := by rw [TT_len]; exact hl
            simp only [putL]
            rw [List.getElem?_set_self e1, List.getElem?_set_self e2]
          · rw [List.getElem?_eq_none (by rw [putL_len, TT_len]; omega), List.getElem?_eq_none (by rw [putL_len, TT_len]; omega)]
        · exact ih
      · split <;> split <;> simp only [putL_other hd, ih]
    · exact ih
theorem TT_same : ∀ i, (∀ j, j < i → c j = c' j) → TT tr T0 c i = TT tr T0 c' i
  | 0, _ => rfl
  | i + 1, h => by
    unfold TT
    rw [TT_same i (fun j hj => h j (by omega)), h i (by omega)]
theorem TT_stop {i : Nat} : ∀ k, i ≤ k → (∀ j, i ≤ j → j < k → c j = false) → TT tr T0 c k = TT tr T0 c i
  | 0, h, _ => by rw [Nat.le_zero.1 h]
  | k + 1, h, hc => by
    by_cases hk : i = k + 1
    · rw [hk]
    · conv => lhs; unfold TT
      rw [hc k (by omega) (by omega)]
      have ih := TT_stop k (by omega) (fun j h1 h2 => hc j h1 (by omega))
      split <;> simpa using ih
theorem SS_len : ∀ i, (SS tr S0 c i).length = (SS tr S0 always i).length
  | 0 => rfl
  | i + 1 => by
    unfold SS
    split
    · simp only [List.length_append, SS_len i]
      split <;> simp [always]
    · exact SS_len i
theorem SS_mono : ∀ {i k : Nat}, i ≤ k → ∃ rest, SS tr S0 c k = SS tr S0 c i ++ rest
  | i, 0, h => ⟨[], by rw [Nat.le_zero.1 h]; simp⟩
  | i, k + 1, h => by
    by_cases hk : i = k + 1
    · exact ⟨[], by rw [hk]; simp⟩
    · obtain ⟨r, hr⟩ := SS_mono (i := i) (k := k) (by omega)
      conv => enter [1, rest, 1]; unfold SS
      split
      · rw [hr, List.append_assoc]; exact ⟨_, rfl⟩
      · exact ⟨r, hr⟩
theorem SS_known : ∀ {i : Nat} {s : Nat} {y : Slot}, (SS tr S0 always i)[s]? = some y → (SS tr S0 c i)[s]? = some y ∨ (SS tr S0 c i)[s]? = some .unborn
  | 0, s, y, h => .inl h
  | i + 1, s, y, h => by
    have hlen := SS_len (tr := tr) (S0 := S0) (c := c) i
    unfold SS at h ⊢
    split at h
    · rename_i e he
      by_cases hs : s < (SS tr S0 always i).length
      · rw [List.getElem?_append_left hs] at h
        rw [List.getElem?_append_left (by omega)]
        exact SS_known h
      · rw [List.getElem?_append_right (by omega)] at h
        rw [List.getElem?_append_right (by omega), hlen]
        simp only [always, if_true] at h
        split
        · exact .inl h
        · right
          rw [List.getElem?_replicate, if_pos (List.getElem?_eq_some_iff.1 h).1]
    · exact SS_known h
theorem SS_known' {i k s : Nat} {y : Slot} (hik : i ≤ k) (h : (SS tr S0 always i)[s]? = some y) : (SS tr S0 c k)[s]? = some y ∨ (SS tr S0 c k)[s]? = some .unborn := by
  obtain ⟨r, hr⟩ := SS_mono (tr := tr) (S0 := S0) (c := c) hik
  have hl := (List.getElem?_eq_some_iff.1 h).1
  rw [hr, List.getElem?_append_left (by rw [SS_len]; exact hl)]
  exact SS_known h
theorem SS_same : ∀ i, (∀ j, j < i → c j = c' j) → SS tr S0 c i = SS tr S0 c' i
  | 0, _ => rfl
  | i + 1, h => by
    unfold SS
    rw [SS_same i (fun j hj => h j (by omega)), h i (by omega)]
theorem SS_seg {i k : Nat} {e : Tr} (hik : i < k) (he : tr[i]? = some e) : ∃ rest, SS tr S0 c k = SS tr S0 c i ++ ((if c i = true then e.news else List.replicate e.news.length .unborn) ++ rest) := by
  obtain ⟨r, hr⟩ := SS_mono (tr := tr) (S0 := S0) (c := c) (i := i + 1) (k := k) hik
  refine ⟨r, ?_⟩
  rw [hr, SS, he, List.append_assoc]
theorem SS_rest : ∀ {i k : Nat}, i ≤ k → (∀ j, i ≤ j → j < k → c j = c' j) → ∃ rest, SS tr S0 c k = SS tr S0 c i ++ rest ∧ SS tr S0 c' k = SS tr S0 c' i ++ rest
  | i, 0, h, _ => ⟨[], by rw [Nat.le_zero.1 h]; simp⟩
  | i, k + 1, h, hc => by
    by_cases hk : i = k + 1
    · exact ⟨[], by rw [hk]; simp⟩
    · obtain ⟨r, h1, h2⟩ := SS_rest (i := i) (k := k) (by omega) (fun j h1 h2 => hc j h1 (by omega))
      cases ht : tr[k]? with
      | none => exact ⟨r, by rw [SS, ht]; exact h1, by rw [SS, ht]; exact h2⟩
      | some e =>
        refine ⟨r ++ (if c k = true then e.news else List.replicate e.news.length .unborn), ?_, ?_⟩
        · rw [SS, ht]; simp only [h1, List.append_assoc]
        · rw [SS, ht]; simp only [h2, List.append_assoc, hc k (by omega) (by omega)]
theorem SS_put {i k : Nat} {e : Tr} (hik : i < k) (he : tr[i]? = some e) (hc : c i = false) : putAt (SS tr S0 c k) (SS tr S0 always i).length e.news = SS tr S0 (plus c i) k ∧ (SS tr S0 always i).length + e.news.length ≤ (SS tr S0 c k).length ∧
    ∀ q, q < e.news.length → (SS tr S0 c k)[(SS tr S0 always i).length + q]? = some .unborn := by
  obtain ⟨r, h1, h2⟩ := SS_rest (tr := tr) (S0 := S0) (c := c) (c' := plus c i) (i := i + 1) (k := k) hik (fun j h1 _ => by
    have : (j == i) = false := by simp; omega
    simp [plus, this])
  have hpre : SS tr S0 (plus c i) i = SS tr S0 c i := SS_same i fun j hj => by
    have : (j == i) = false := by simp; omega
    simp [plus, this]
  rw [SS, he] at h1 h2
  simp only [hc, Bool.false_eq_true, if_false, hpre] at h1 h2
  have hpi : plus c i i = true := by simp [plus]
  simp only [hpi, if_true] at h2
  rw [← SS_len (c := c)]
  refine ⟨?_, ?_, fun q hq => ?_⟩
  · rw [h1, h2]
    unfold putAt
    rw [List.append_assoc, List.append_assoc, List.take_left', List.append_assoc]
    · congr 2
      rw [← List.drop_drop, List.drop_left', List.drop_left']
      · simp
      · rfl
    · rfl
  · rw [h1]; simp
  · rw [h1, List.append_assoc, List.getElem?_append_right (by omega), Nat.add_sub_cancel_left, List.getElem?_append_left (by simpa using hq), List.getElem?_replicate, if_pos hq]
theorem TT_put {i k : Nat} {e : Tr} (hik : i < k) (he : tr[i]? = some e) (hlate : ∀ j, i < j → j < k → ∀ e', tr[j]? = some e' → e'.dst = e.dst → e.dst ≠ none → c j = false) : putL (TT tr T0 c k) e.dst e.x = TT tr T0 (plus c i) k := by
  apply List.ext_getElem?
  intro t
  by_cases hd : e.dst = some t
  · have e1 : (TT tr T0 (plus c i) k)[t]? = (TT tr T0 (fun j => plus c i j && decide (j ≤ i)) k)[t]? := TT_congr k fun j hj e' he' hd' => by
      by_cases hji : j ≤ i
      · simp [hji]
      · have h1 := hlate j (by omega) hj e' he' (by rw [hd', hd]) (by rw [hd]; simp)
        have h2 : (j == i) = false := by simp; omega
        simp [plus, h1, h2]
    have e2 : TT tr T0 (fun j => plus c i j && decide (j ≤ i)) k = TT tr T0 (fun j => plus c i j && decide (j ≤ i)) (i + 1) := TT_stop k hik fun j h1 _ => by
      have : ¬ j ≤ i := by omega
      simp [this]
    rw [e1, e2, TT, he]
    have hpi : (plus c i i && decide (i ≤ i)) = true := by simp [plus]
    simp only [hpi, if_true, hd]
    by_cases hl : t < T0.length
    · simp only [putL]
      rw [List.getElem?_set_self (by rw [TT_len]; exact hl), List.getElem?_set_self (by rw [TT_len]; exact hl)]
    · rw [List.getElem?_eq_none (by rw [putL_len, TT_len]; omega), List.getElem?_eq_none (by rw [putL_len, TT_len]; omega)]
  · rw [putL_other hd]
    refine TT_congr k fun j hj e' he' hd' => ?_
    have : (j == i) = false := by
      simp only [beq_eq_false_iff_ne]
      intro e1
      subst e1
      rw [he] at he'
      cases he'
      exact hd hd'
    simp [plus, this]
theorem TT_append {e : Tr} : ∀ {i : Nat}, i ≤ tr.length → TT (tr ++ [e]) T0 c i = TT tr T0 c i
  | 0, _ => rfl
  | i + 1, h => by
    unfold TT
    rw [List.getElem?_append_left (by omega), TT_append (by omega)]
theorem SS_append {e : Tr} : ∀ {i : Nat}, i ≤ tr.length → SS (tr ++ [e]) S0 c i = SS tr S0 c i
  | 0, _ => rfl
  | i + 1, h => by
    unfold SS
    rw [List.getElem?_append_left (by omega), SS_append (by omega)]
end

/-- Is the operation wanted? -/
def guardA (ops : Array Oper) (T : List V) (o : Oper) : Option Bool :=
  match o.guard with
  | none => some true
  | some (j, b) => match (ops[j]?).bind (·.dst) with
    | some d => match (T[d]?).getD .any with
      | .d (.bool t) => some (t == b)
      | .tup [] => some false
      | _ => none
    | none => none
/-- The operations run in the text's order, and gave tr. -/
def Canon (P : Program) (m : Mode) (ops : Array Oper) (l : List Oper) (tr : List Tr) (T0 : List V) (S0 : List Slot) : Prop :=
  tr.length ≤ l.length ∧ ∀ i o e, l[i]? = some o → tr[i]? = some e → e.dst = o.dst ∧
    ((guardA ops (TT tr T0 always i) o = some true ∧ AQ P m.st (SS tr S0 always i).length ⟨TT tr T0 always i, SS tr S0 always i⟩ o e.x e.news) ∨ (guardA ops (TT tr T0 always i) o = some false ∧ e.x = .tup [] ∧ e.news = []))
theorem put_same {σ : St} {d : Nat} {x : V} (hx : σ.get d = x) (hd : x ≠ .any) : σ.put (some d) x = σ := by
  unfold St.put
  unfold St.get at hx
  cases hd' : σ.tmps[d]? with
  | none => rw [hd'] at hx; exact absurd hx.symm hd
  | some y =>
    rw [hd'] at hx
    simp at hx
    subst hx
    have hl := (List.getElem?_eq_some_iff.1 hd').1
    have : σ.tmps.set d y = σ.tmps := by
      apply List.ext_getElem?
      intro i
      by_cases hi : d = i
      · subst hi; rw [List.getElem?_set_self hl, hd']
      · rw [List.getElem?_set_ne hi]
    simp only [this]
theorem put_putL (T : List V) (S : List Slot) (d : Option Nat) (x : V) : St.put ⟨T, S⟩ d x = ⟨putL T d x, S⟩ := by cases d <;> rfl
section
variable {P : Program} {m : Mode} {ops : Array Oper} {K : St → Prop}
theorem aop_quiet {o : Oper} {K : St → Prop} {σ : St} (htc : m.tc = false) (hq : quietOp o = true) (h : AOp P m o K σ) : ∃ x news, AQ P m.st σ.slots.length σ o x news ∧ K (St.put ⟨σ.tmps, σ.slots ++ news⟩ o.dst x) := by
  unfold AOp at h
  unfold quietOp at hq
  split at h
  · rename_i ho; rw [ho] at hq; cases hq
  · rename_i c ho
    rw [ho] at hq
    simp only at hq
    split at h
    · rename_i hc; rw [hc] at hq; cases hq
    · rcases h with h | h
      · exact h
      · split at h
        · rcases h with h | h <;> (have := h.1; rw [htc] at this; cases this)
        · exact h.elim
    · exact h
  · split at h
    · have := h.1; rw [htc] at this; cases this
    · exact h
  · exact h
/-- A walk in the text's order, up to k. -/
theorem canon_of (htc : m.tc = false) {l : List Oper} {T0 : List V} {S0 : List Slot} (h : AOps P m ops K l ⟨T0, S0⟩) : ∀ k, k ≤ l.length → (∀ i o, i < k → l[i]? = some o → quietOp o = true) →
    ∃ tr : List Tr, tr.length = k ∧ Canon P m ops l tr T0 S0 ∧ AOps P m ops K (l.drop k) ⟨TT tr T0 always k, SS tr S0 always k⟩
  | 0, _, _ => ⟨[], rfl, ⟨by simp, fun i o e _ he => by simp at he⟩, h⟩
  | k + 1, hk, hq => by
    obtain ⟨tr, h1, ⟨h2, h3⟩, h4⟩ := canon_of htc h k (by omega) (fun i o hi => hq i o (by omega))
    have ho : l[k]? = some (l[k]'(by omega)) := List.getElem?_eq_getElem _
    generalize hoo : l[k]'(by omega) = o at ho
    have hd : l.drop k = o :: l.drop (k + 1) := by rw [← hoo]; exact List.drop_eq_getElem_cons (by omega)
    rw [hd] at h4
    -- one entry more
    have more : ∀ (x : V) (news : List Slot), ((guardA ops (TT tr T0 always k) o = some true ∧ AQ P m.st (SS tr S0 always k).length ⟨TT tr T0 always k, SS tr S0 always k⟩ o x news) ∨ (guardA ops (TT tr T0 always k) o = some false ∧ x = .tup [] ∧ news = [])) →
        AOps P m ops K (l.drop (k + 1)) (St.put ⟨TT tr T0 always k, SS tr S0 always k ++ news⟩ o.dst x) → ∃ tr : List Tr, tr.length = k + 1 ∧ Canon P m ops l tr T0 S0 ∧ AOps P m ops K (l.drop (k + 1)) ⟨TT tr T0 always (k + 1), SS tr S0 always (k + 1)⟩ := by
      intro x news hor hnext
      have hat : (tr ++ [⟨o.dst, x, news⟩] : List Tr)[k]? = some ⟨o.dst, x, news⟩ := by rw [List.getElem?_append_right (by omega), h1]; simp
      refine ⟨tr ++ [⟨o.dst, x, news⟩], by simp [h1], ⟨by simp; omega, fun i o' e ho' he => ?_⟩, ?_⟩
      · by_cases hi : i < tr.length
        · rw [List.getElem?_append_left hi] at he
          rw [TT_append (by omega), SS_append (by omega)]
          exact h3 i o' e ho' he
        · have hik : i = k := by have := (List.getElem?_eq_some_iff.1 he).1; simp at this; omega
          subst hik
          rw [hat] at he
          cases he
          rw [ho] at ho'
          cases ho'
          rw [TT_append (by omega), SS_append (by omega)]
          exact ⟨rfl, hor⟩
      · rw [TT, SS, hat]
        simp only [always, if_true]
        rw [TT_append (by omega), SS_append (by omega)]
        rw [put_putL] at hnext
        exact hnext
    unfold AOps at h4
    split at h4
    · rename_i hg
      obtain ⟨x, news, h5, h6⟩ := aop_quiet htc (hq k o (by omega) ho) h4
      exact more x news (.inl ⟨by simp [guardA, hg], h5⟩) h6
    · rename_i j b hg
      split at h4
      · exact h4.elim
      rename_i d hdd
      split at h4
      · rename_i t ht
        have hgA : guardA ops (TT tr T0 always k) o = some (t == b) := by
          unfold guardA
          rw [hg]
          simp only [hdd]
          have : ((TT tr T0 always k)[d]?).getD .any = .d (.bool t) := ht
          rw [this]
        have hsame := put_same ht (by simp)
        by_cases htb : t = b
        · subst htb
          have h5 := h4.1 rfl
          rw [hsame] at h5
          obtain ⟨x, news, h6, h7⟩ := aop_quiet htc (hq k o (by omega) ho) h5
          exact more x news (.inl ⟨by rw [hgA]; simp, h6⟩) h7
        · have htn : t = !b := by cases t <;> cases b <;> simp_all
          have h5 := h4.2 htn
          rw [← htn, hsame] at h5
          refine more (.tup []) [] (.inr ⟨by rw [hgA]; simp [htb], rfl, rfl⟩) ?_
          rw [List.append_nil]
          exact h5
      · rename_i ht
        have hgA : guardA ops (TT tr T0 always k) o = some false := by
          unfold guardA
          rw [hg]
          simp only [hdd]
          have : ((TT tr T0 always k)[d]?).getD .any = .tup [] := ht
          rw [this]
        refine more (.tup []) [] (.inr ⟨hgA, rfl, rfl⟩) ?_
        rw [List.append_nil]
        exact h4
      · exact h4.elim
end
end Go.Proofs.Ytdliejnmpdodhaa
