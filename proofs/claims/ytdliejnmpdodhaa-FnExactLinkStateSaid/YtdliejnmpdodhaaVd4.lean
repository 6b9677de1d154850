/-
  Regions whose order is drawn: every schedule ends as the text's order does. Plain lemmas, about no function of the program.
  Conditions: those typed in each theorem.
-/
import Derived.Test.YtdliejnmpdodhaaVd3
namespace Go.Proofs.Ytdliejnmpdodhaa
open Go.RowKit Go.ChangeShapes Go.WideShapes
set_option linter.unusedVariables false

/-- How many of the first n are not listed. -/
def cntU (L : Nat → Bool) : Nat → Nat
  | 0 => 0
  | n + 1 => cntU L n + (if L n = true then 0 else 1)
theorem cntU_plus {L : Nat → Bool} {i : Nat} (hL : L i = false) : ∀ {n : Nat}, i < n → cntU (plus L i) n + 1 = cntU L n
  | 0, h => by omega
  | n + 1, h => by
    unfold cntU
    by_cases hi : i = n
    · subst hi
      have e : ∀ m, m ≤ i → cntU (plus L i) m = cntU L m := by
        intro m
        induction m with
        | zero => intro _; rfl
        | succ m ih =>
          intro hm
          unfold cntU
          have : (m == i) = false := by simp; omega
          rw [ih (by omega)]
          simp [plus, this]
      rw [e i (Nat.le_refl _), hL]
      simp [plus]
    · have := cntU_plus hL (n := n) (by omega)
      have h2 : (n == i) = false := by simp; omega
      simp only [plus, h2, Bool.false_or] at this ⊢
      omega
theorem cntU_zero {L : Nat → Bool} : ∀ {n : Nat}, cntU L n = 0 → ∀ j, j < n → L j = true
  | 0, _, j, h => by omega
  | n + 1, h, j, hj => by
    unfold cntU at h
    by_cases hn : L n = true
    · by_cases hjn : j = n
      · rw [hjn]; exact hn
      · exact cntU_zero (n := n) (by omega) j (by omega)
    · rw [if_neg hn] at h; omega
theorem cntU_pos {L : Nat → Bool} {n : Nat} (h : 0 < cntU L n) : ∃ j, j < n ∧ L j = false ∧ ∀ i, i < j → L i = true := by
  have h1 : ∃ j, j < n ∧ L j = false := by
    refine Classical.byContradiction fun hn => ?_
    have : ∀ m, m ≤ n → cntU L m = 0 := by
      intro m
      induction m with
      | zero => intro _; rfl
      | succ m ih =>
        intro hm
        unfold cntU
        rw [ih (by omega)]
        cases hL : L m with
        | true => rfl
        | false => exact absurd ⟨m, by omega, hL⟩ hn
    rw [this n (Nat.le_refl _)] at h
    omega
  obtain ⟨j, hj, hL⟩ := h1
  induction j using Nat.strongRecOn with
  | _ j ih =>
    by_cases hall : ∃ i, i < j ∧ L i = false
    · obtain ⟨i, hi, hLi⟩ := hall
      exact ih i hi (by omega) hLi
    · refine ⟨j, hj, hL, fun i hi => ?_⟩
      cases hLi : L i with
      | true => rfl
      | false => exact absurd ⟨i, hi, hLi⟩ hall

section
variable {P : Program} {mo : Mode} {w0 : Base} {w w' : World} {φ φ' : Hdrs} {σ σ' : St} {a : Act} {ops : Array Oper} {l : List Oper}
def ready (m : Region.Mode) (ops : Array Oper) (listed : Array Bool) (i : Nat) : Bool :=
  !listed.getD i true && ((ops[i]?).map (·.after.all fun e => !Region.binds m e || listed.getD e.on false)).getD false
theorem go_succ (m : Region.Mode) (ops : Array Oper) (fuel t : Nat) (listed : Array Bool) (acc : List Nat) : Region.linearise.go m ops (fuel + 1) t listed acc =
    match ((List.range ops.size).filter (ready m ops listed))[t % ((List.range ops.size).filter (ready m ops listed)).length]? with
    | some i => Region.linearise.go m ops fuel (t / ((List.range ops.size).filter (ready m ops listed)).length) (listed.setIfInBounds i true) (i :: acc)
    | none => acc.reverse := rfl
theorem binds_plain {m : Region.Mode} {e : Edge} (h : plainEdge e = true) : Region.binds m e = true := by
  unfold plainEdge at h
  unfold Region.binds
  cases hg : e.ground <;> rw [hg] at h <;> simp_all
theorem ready_of (hops : ops.toList = l) {m : Region.Mode} {listed : Array Bool} (hsz : listed.size = ops.size) {i : Nat} (hi : i < ops.size) (hL : listed.getD i false = false) (h : ∀ o, l[i]? = some o → ∀ e ∈ o.after.toList, Region.binds m e = true → listed.getD e.on false = true) : ready m ops listed i = true := by
  have ho : ops[i]? = some ops[i] := Array.getElem?_eq_getElem hi
  have hol : l[i]? = some ops[i] := by rw [← hops, Array.getElem?_toList]; exact ho
  have e1 : listed.getD i true = listed.getD i false := by simp [Array.getD, hsz, hi]
  unfold ready
  rw [e1, ho, hL]
  simp only [Option.map_some, Option.getD_some, Bool.and_eq_true, Bool.not_eq_true', Array.all_eq_true_iff_forall_mem]
  refine ⟨trivial, fun e he => ?_⟩
  have := h _ hol e (by simpa using he)
  cases hb : Region.binds m e with
  | false => rfl
  | true => simp [this hb]
theorem ready_dep (hops : ops.toList = l) {m : Region.Mode} {listed : Array Bool} (hsz : listed.size = ops.size) {i : Nat} (hi : i < ops.size) (hr : ready m ops listed i = true) : listed.getD i false = false ∧ ∀ o, l[i]? = some o → ∀ d ∈ depsOf o, listed.getD d false = true := by
  have ho : ops[i]? = some ops[i] := Array.getElem?_eq_getElem hi
  have hol : l[i]? = some ops[i] := by rw [← hops, Array.getElem?_toList]; exact ho
  have e1 : listed.getD i true = listed.getD i false := by simp [Array.getD, hsz, hi]
  unfold ready at hr
  rw [e1, ho] at hr
  simp only [Option.map_some, Option.getD_some, Bool.and_eq_true, Bool.not_eq_true', Array.all_eq_true_iff_forall_mem] at hr
  refine ⟨hr.1, fun o ho' d hdm => ?_⟩
  rw [hol] at ho'
  cases ho'
  unfold depsOf at hdm
  obtain ⟨e, he, rfl⟩ := List.mem_map.1 hdm
  obtain ⟨he, hp⟩ := List.mem_filter.1 he
  have := hr.2 e (by simpa using he)
  rw [binds_plain hp] at this
  simpa using this
/-- What is picked is ready; and something is picked. -/
theorem pick_ready (hops : ops.toList = l) (hd : Drawn l) {m : Region.Mode} {listed : Array Bool} (hsz : listed.size = ops.size) (hc : 0 < cntU (fun j => listed.getD j false) ops.size) (t : Nat) :
    ∃ i, ((List.range ops.size).filter (ready m ops listed))[t % ((List.range ops.size).filter (ready m ops listed)).length]? = some i ∧ i < ops.size ∧ listed.getD i false = false ∧ ∀ o, l[i]? = some o → ∀ d ∈ depsOf o, listed.getD d false = true := by
  obtain ⟨j, hj, hLj, hless⟩ := cntU_pos hc
  have hll : l.length = ops.size := by rw [← hops]; simp
  have hsome : ∃ i, i < ops.size ∧ ready m ops listed i = true := by
    by_cases hall : ∀ o, l[j]? = some o → ∀ e ∈ o.after.toList, Region.binds m e = true → listed.getD e.on false = true
    · exact ⟨j, hj, ready_of hops hsz hj hLj hall⟩
    · simp only [Classical.not_forall] at hall
      obtain ⟨o, ho, e, he, hb, hn⟩ := hall
      have hn' : listed.getD e.on false = false := by cases h : listed.getD e.on false with | false => rfl | true => exact absurd h hn
      have hge : ¬ e.on < j := fun h => hn (hless _ h)
      have hp : plainEdge e = false := by cases h : plainEdge e with | false => rfl | true => exact absurd (hd.edge ho e he h) hge
      have hs := hd.soft ho e he hp
      unfold softOk at hs
      simp only [Bool.or_eq_true, decide_eq_true_eq, Bool.and_eq_true, Bool.not_eq_true'] at hs
      rcases hs with h | ⟨ht, hq⟩
      · exact absurd h hge
      cases hql : l[e.on]? with
      | none => rw [hql] at hq; cases hq
      | some q =>
        rw [hql] at hq
        simp only [List.all_eq_true, Bool.or_eq_true, decide_eq_true_eq] at hq
        have hm : m = .gc := by
          unfold plainEdge at hp
          unfold textEdge at ht
          unfold Region.binds at hb
          cases hg : e.ground <;> rw [hg] at hp ht hb <;> simp_all
        have hlt : e.on < ops.size := by have := (List.getElem?_eq_some_iff.1 hql).1; omega
        refine ⟨e.on, hlt, ready_of hops hsz hlt hn' fun o' ho' e' he' hb' => ?_⟩
        rw [hql] at ho'
        cases ho'
        rcases hq e' he' with h | h
        · unfold textEdge at h
          unfold Region.binds at hb'
          rw [hm] at hb'
          cases hg : e'.ground <;> rw [hg] at h hb' <;> simp_all
        · exact hless _ h
  obtain ⟨i, hi, hri⟩ := hsome
  have hmem : i ∈ (List.range ops.size).filter (ready m ops listed) := by
    rw [List.mem_filter, List.mem_range]
    exact ⟨hi, hri⟩
  have hlen : 0 < ((List.range ops.size).filter (ready m ops listed)).length := List.length_pos_of_mem hmem
  have hlt := Nat.mod_lt t hlen
  refine ⟨_, List.getElem?_eq_getElem hlt, ?_⟩
  have hin := List.getElem_mem hlt
  rw [List.mem_filter, List.mem_range] at hin
  exact ⟨hin.1, ready_dep hops hsz hin.1 hin.2⟩
theorem listed_set {listed : Array Bool} {n i : Nat} (hsz : listed.size = n) (hi : i < n) : (fun j => (listed.setIfInBounds i true).getD j false) = plus (fun j => listed.getD j false) i := by
  funext j
  simp only [plus]
  by_cases hj : j = i
  · subst hj
    simp [Array.getD, hsz, hi]
  · have h1 : (j == i) = false := by simpa using hj
    rw [h1, Bool.false_or]
    simp only [Array.getD_eq_getD_getElem?]
    rw [Array.getElem?_setIfInBounds_ne (fun e => hj e.symm)]
/-- Behind the first operation that turns a slot, there is one order. -/
theorem go_tail (hops : ops.toList = l) (hd : Drawn l) {m : Region.Mode} : ∀ (fuel t : Nat) (listed : Array Bool) (acc : List Nat) (mm : Nat), quietLen l ≤ mm → mm + fuel = ops.size → listed.size = ops.size → (∀ j, listed.getD j false = decide (j < mm)) →
    Region.linearise.go m ops fuel t listed acc = acc.reverse ++ List.range' mm fuel
  | 0, t, listed, acc, mm, _, _, _, _ => by simp [Region.linearise.go]
  | fuel + 1, t, listed, acc, mm, hk, hn, hsz, hL => by
    have hc : 0 < cntU (fun j => listed.getD j false) ops.size := by
      rcases Nat.eq_zero_or_pos (cntU (fun j => listed.getD j false) ops.size) with h | h
      · have := cntU_zero h mm (by omega)
        simp only [hL] at this
        simp at this
      · exact h
    obtain ⟨i, hpick, hi, hLi, hdep⟩ := pick_ready (m := m) hops hd hsz hc t
    rw [go_succ, hpick]
    simp only
    have him : i = mm := by
      rw [hL] at hLi
      have hge : mm ≤ i := by simpa using hLi
      rcases Nat.eq_or_lt_of_le hge with h | h
      · exact h.symm
      · have hil : i < l.length := by rw [← hops]; simpa using hi
        have hb := hd.tail (by omega) hil h
        have hol : l[i]? = some l[i] := List.getElem?_eq_getElem hil
        have := bits_in (l := l) hd.deps (c := fun j => decide (j < mm)) (fun {j o} hcj ho d hdm => by
          have := hd.deps ho d hdm
          simp only [decide_eq_true_eq] at hcj ⊢
          omega) i hol (fun d hdm => by rw [← hL]; exact hdep _ hol d hdm) hb
        simp at this
    subst him
    rw [go_tail hops hd fuel _ _ _ (i + 1) (by omega) (by omega) (by simpa using hsz) (fun j => by
      have := congrFun (listed_set hsz hi) j
      rw [this]
      simp only [plus, hL]
      by_cases hj : j = i
      · subst hj; simp
      · have h1 : (j == i) = false := by simpa using hj
        rw [h1, Bool.false_or]
        congr 1
        apply propext
        omega)]
    simp [List.range'_succ]
theorem wpOps_tail {Q : Exit → Act → World → Prop} {k : Nat} (hk : k ≤ ops.size) : wpOps P ops Q (List.range' k (ops.size - k)) = wpList P ops Q (ops.toList.drop k) := by
  have := wpOps_eq_wpList (P := P) (ops := ops) (Q := Q) (ops.toList.drop k) k (fun j => by rw [List.getElem?_drop, Array.getElem?_toList])
  rw [← this]
  simp
theorem go_sound (hst : w0.st = mo.st) (hops : ops.toList = l) (hd : Drawn l) {m : Region.Mode} {tr : List Tr} {T0 : List V} {S0 : List Slot} (hcan : Canon P mo ops l tr T0 S0) (hk : tr.length = quietLen l) {Q : Exit → Act → World → Prop}
    (htail : ∀ φ a w, Rel P w0 φ ⟨TT tr T0 always (quietLen l), SS tr S0 always (quietLen l)⟩ a w → wpList P ops Q (l.drop (quietLen l)) a w) :
    ∀ (fuel t : Nat) (listed : Array Bool) (acc : List Nat), listed.size = ops.size → cntU (fun j => listed.getD j false) ops.size = fuel → (∀ j, listed.getD j false = true → j < quietLen l) →
      (∀ {j : Nat} {o : Oper}, listed.getD j false = true → l[j]? = some o → ∀ d ∈ depsOf o, listed.getD d false = true) →
      ∃ suf, Region.linearise.go m ops fuel t listed acc = acc.reverse ++ suf ∧ ∀ φ a w, Rel P w0 φ ⟨TT tr T0 (fun j => listed.getD j false) (quietLen l), SS tr S0 (fun j => listed.getD j false) (quietLen l)⟩ a w → wpOps P ops Q suf a w := by
  have hlen : l.length = ops.size := by rw [← hops]; simp
  have hql : quietLen l ≤ ops.size := by rw [← hlen]; exact quietLen_le
  -- all of the quiet ones are listed
  have full : ∀ (fuel t : Nat) (listed : Array Bool) (acc : List Nat), listed.size = ops.size → cntU (fun j => listed.getD j false) ops.size = fuel → (∀ j, listed.getD j false = true → j < quietLen l) → (∀ j, j < quietLen l → listed.getD j false = true) →
      ∃ suf, Region.linearise.go m ops fuel t listed acc = acc.reverse ++ suf ∧ ∀ φ a w, Rel P w0 φ ⟨TT tr T0 (fun j => listed.getD j false) (quietLen l), SS tr S0 (fun j => listed.getD j false) (quietLen l)⟩ a w → wpOps P ops Q suf a w := by
    intro fuel t listed acc hsz hc hlt hall
    have hL : ∀ j, listed.getD j false = decide (j < quietLen l) := by
      intro j
      by_cases h : j < quietLen l
      · rw [hall j h]; simp [h]
      · cases hj : listed.getD j false with
        | true => exact absurd (hlt j hj) h
        | false => simp [h]
    have hcount : cntU (fun j => listed.getD j false) ops.size = ops.size - quietLen l := by
      have e : ∀ n, cntU (fun j => decide (j < quietLen l)) n = n - quietLen l := by
        intro n
        induction n with
        | zero => simp [cntU]
        | succ n ih =>
          unfold cntU
          rw [ih]
          by_cases h : n < quietLen l
          · simp [h]; omega
          · simp [h]; omega
      have : (fun j => listed.getD j false) = fun j => decide (j < quietLen l) := funext hL
      rw [this]
      exact e _
    refine ⟨List.range' (quietLen l) (ops.size - quietLen l), ?_, fun φ a w hr => ?_⟩
    · rw [go_tail hops hd fuel t listed acc (quietLen l) (Nat.le_refl _) (by omega) hsz hL]
      congr 2
      omega
    · rw [wpOps_tail hql, hops]
      refine htail φ a w ?_
      have e1 : TT tr T0 (fun j => listed.getD j false) (quietLen l) = TT tr T0 always (quietLen l) := TT_same _ fun j hj => by rw [hL]; simp [hj, always]
      have e2 : SS tr S0 (fun j => listed.getD j false) (quietLen l) = SS tr S0 always (quietLen l) := SS_same _ fun j hj => by rw [hL]; simp [hj, always]
      rw [← e1, ← e2]
      exact hr
  intro fuel
  induction fuel with
  | zero =>
    intro t listed acc hsz hc hlt hcl
    exact full 0 t listed acc hsz hc hlt fun j hj => cntU_zero hc j (by omega)
  | succ fuel ih =>
    intro t listed acc hsz hc hlt hcl
    obtain ⟨i, hpick, hi, hLi, hdep⟩ := pick_ready (m := m) hops hd hsz (by omega) t
    have hil : i < l.length := by omega
    have hol : l[i]? = some l[i] := List.getElem?_eq_getElem hil
    by_cases hik : i < quietLen l
    · have hset := listed_set hsz hi
      have hat : ∀ j, (listed.setIfInBounds i true).getD j false = plus (fun j => listed.getD j false) i j := fun j => congrFun hset j
      obtain ⟨suf, h1, h2⟩ := ih (t / ((List.range ops.size).filter (ready m ops listed)).length) (listed.setIfInBounds i true) (i :: acc) (by simpa using hsz) (by
          rw [hset]
          have := cntU_plus (L := fun j => listed.getD j false) hLi hi
          omega) (fun j hj => by
          rw [hat] at hj
          simp only [plus, Bool.or_eq_true, beq_iff_eq] at hj
          rcases hj with rfl | hj
          · exact hik
          · exact hlt j hj) (fun {j o} hj ho d hdm => by
          rw [hat] at hj ⊢
          simp only [plus, Bool.or_eq_true, beq_iff_eq] at hj ⊢
          right
          rcases hj with rfl | hj
          · exact hdep o ho d hdm
          · exact hcl hj ho d hdm)
      refine ⟨i :: suf, ?_, fun φ a w hr => ?_⟩
      · rw [go_succ, hpick]
        simp only
        rw [h1]
        simp
      · have hoo : ops[i]? = some l[i] := by rw [← Array.getElem?_toList, hops]; exact hol
        unfold wpOps
        simp only [hoo]
        have := step_quiet hst (c := fun j => listed.getD j false) (KC := wpOps P ops Q suf) (Q := Q) hops hd hcan hk hik hol hLi hlt hcl (hdep _ hol) hr (fun φ' a' w' hr' => h2 φ' a' w' (by rw [hset]; exact hr'))
        split
        · rename_i hw
          rw [if_pos hw] at this
          exact .inl this
        · rename_i hw
          rw [if_neg hw] at this
          exact this
    · -- one behind the quiet ones is ready: all of them are listed
      refine full (fuel + 1) t listed acc hsz hc hlt fun j hj => ?_
      have hb := hd.tail (i := j) (j := i) (by omega) hil (by omega)
      exact bits_in (l := l) hd.deps (c := fun j => listed.getD j false) (fun {j o} h ho d hdm => hcl h ho d hdm) i hol (hdep _ hol) hb
theorem Rel.drew (h : Rel P w0 φ σ a w) : Rel P w0 φ σ a { w with drawn := w.drawn + 1 } := by
  obtain ⟨Fs, hm⟩ := h.mem
  have hO : Only [] w { w with drawn := w.drawn + 1 } := ⟨rfl, rfl, rfl, Nat.le_refl _, fun _ _ _ => rfl⟩
  have ht : Turn P w0 φ σ.slots w φ σ.slots { w with drawn := w.drawn + 1 } := hm.turn (Fs' := Fs) hO (by simp) hm.flen hm.Flen hm.nd hm.ge (fun s x hx => ⟨x, hx, Later.refl x⟩) (fun _ _ h _ => h) (fun b hb => .inr hb) (fun s x hd F h1 h2 h3 => .inl ⟨h1, h2, h3, by simp⟩)
  exact h.turn ht (x := .any) (v := undef) (.any _) none
theorem SS_none {tr : List Tr} {S0 : List Slot} : ∀ k, ∃ n, SS tr S0 (fun _ => false) k = S0 ++ List.replicate n .unborn
  | 0 => ⟨0, by simp [SS]⟩
  | k + 1 => by
    obtain ⟨n, hn⟩ := SS_none (tr := tr) (S0 := S0) k
    cases he : tr[k]? with
    | none => exact ⟨n, by rw [SS, he]; exact hn⟩
    | some e => exact ⟨n + e.news.length, by rw [SS, he]; simp only [hn, Bool.false_eq_true, if_false, List.append_assoc, List.replicate_append_replicate]⟩
theorem Rel.unborn (h : Rel P w0 φ σ a w) (n : Nat) : ∃ φ', Rel P w0 φ' ⟨σ.tmps, σ.slots ++ List.replicate n .unborn⟩ a w := by
  obtain ⟨Fs, hm⟩ := h.mem
  have hrep : ∀ k : Nat, (List.replicate k ([] : List Nat)).flatten = [] := fun k => by induction k with | zero => rfl | succ k ih => simp [List.replicate_succ, ih]
  have ht : Turn P w0 φ σ.slots w (φ ++ List.replicate n (none, 0)) (σ.slots ++ List.replicate n .unborn) w := by
    refine hm.turn (Fs' := Fs ++ List.replicate n []) (Only.refl [] w) (by simp) (by simp [hm.flen]) (by simp [hm.Flen]) (by rw [List.flatten_append, hrep, List.append_nil]; exact hm.nd) (by rw [List.flatten_append, hrep, List.append_nil]; exact hm.ge)
      (fun s x hx => ⟨x, by rw [List.getElem?_append_left (List.getElem?_eq_some_iff.1 hx).1]; exact hx, Later.refl x⟩) (fun s h hh _ => by rw [List.getElem?_append_left (List.getElem?_eq_some_iff.1 hh).1]; exact hh) ?_ ?_
    · rintro b ⟨s, x, c, h1, h2, h3⟩
      by_cases hs : s < σ.slots.length
      · rw [List.getElem?_append_left hs] at h1
        rw [List.getElem?_append_left (by rw [hm.flen]; exact hs)] at h3
        exact .inr ⟨s, x, c, h1, h2, h3⟩
      · rw [List.getElem?_append_right (by omega), List.getElem?_replicate] at h1
        split at h1
        · cases h1; exact h2.elim
        · cases h1
    · intro s x hd F h1 h2 h3
      by_cases hs : s < σ.slots.length
      · rw [List.getElem?_append_left hs] at h1
        rw [List.getElem?_append_left (by rw [hm.flen]; exact hs)] at h2
        rw [List.getElem?_append_left (by rw [hm.Flen]; exact hs)] at h3
        exact .inl ⟨h1, h2, h3, by simp⟩
      · rw [List.getElem?_append_right (by omega), List.getElem?_replicate] at h1
        rw [List.getElem?_append_right (by rw [hm.Flen]; omega), List.getElem?_replicate] at h3
        split at h1
        · cases h1
          split at h3
          · cases h3; exact .inr rfl
          · cases h3
        · cases h1
  exact ⟨_, h.turn ht (x := .any) (v := undef) (.any _) none⟩
/-- A region whose order is drawn. -/
theorem draw_sound (hst : w0.st = mo.st) (htc : mo.tc = false) {id : Nat} {K : St → Prop} {Q : Exit → Act → World → Prop} (hok : drawOk ops = true) (h : AOps P mo ops K ops.toList σ) (hr : Rel P w0 φ σ a w)
    (htail : ∀ (l' : List Oper) {φ : Hdrs} {σ : St} {a : Act} {w : World}, AOps P mo ops K l' σ → Rel P w0 φ σ a w → wpList P ops Q l' a w) : (Code.region id ops true).wp P Q a w := by
  have hd := drawn_of hok
  refine wp_region_draw fun t => ?_
  obtain ⟨T0, S0⟩ := σ
  obtain ⟨tr, h1, h2, h3⟩ := canon_of htc h (quietLen ops.toList) quietLen_le (fun i o hi ho => quiet_of hi ho)
  have main : ∀ (m : Region.Mode) (t : Nat), wpOps P ops Q (Region.linearise m ops t) a { w with drawn := w.drawn + 1 } := by
    intro m t
    have hgd : ∀ j, (Array.replicate ops.size false).getD j false = false := fun j => by
      simp only [Array.getD_eq_getD_getElem?, Array.getElem?_replicate]
      split <;> rfl
    have hfun : (fun j => (Array.replicate ops.size false).getD j false) = fun _ => false := funext hgd
    obtain ⟨suf, k1, k2⟩ := go_sound hst (m := m) rfl hd h2 h1 (fun φ a w hr => htail _ h3 hr) ops.size t (Array.replicate ops.size false) [] (by simp) (by
        rw [hfun]
        have : ∀ n, cntU (fun _ => false) n = n := fun n => by induction n with | zero => rfl | succ n ih => unfold cntU; rw [ih]; simp
        exact this _) (fun j hj => by rw [hgd] at hj; cases hj) (fun {j o} hj _ _ _ => by rw [hgd] at hj; cases hj)
    have e : Region.linearise m ops t = suf := by
      unfold Region.linearise
      rw [k1]
      simp
    rw [e]
    obtain ⟨n, e2⟩ := SS_none (tr := tr) (S0 := S0) (quietLen ops.toList)
    obtain ⟨φ', hr'⟩ := Rel.unborn hr.drew n
    refine k2 φ' a _ ?_
    rw [hfun]
    have e1 : TT tr T0 (fun _ => false) (quietLen ops.toList) = T0 := TT_stop (i := 0) _ (Nat.zero_le _) fun _ _ _ => rfl
    rw [e1, e2]
    exact hr'
  unfold Region.schedule
  split
  · exact main _ _
  · exact main _ _
end
end Go.Proofs.Ytdliejnmpdodhaa
