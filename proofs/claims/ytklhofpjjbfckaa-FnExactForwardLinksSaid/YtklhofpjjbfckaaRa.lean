/-
  What can be observed in a net: what its outputs reach through AND nodes and sequential elements; by a search with a list of what is left to do, and by rounds of marks. Plain lemmas, about no function of the program.
  Conditions: those typed in each theorem.
-/
import Derived.Test.YtklhofpjjbfckaaNo
namespace Go.Proofs.Ytklhofpjjbfckaa
set_option linter.unusedVariables false

def litN (l : Int) : Nat := l.toNat / 2
def seqAt (x : GrD) (i : Nat) : SeqD := (x.2.1[i]?).getD (0, 0, [])
/-- The number of the first sequential element. -/
def firstQ (x : GrD) : Nat := 1 + x.1.toNat
/-- The nodes that a node needs. -/
def kidsO (x : GrD) (v : Nat) : List Nat := if firstG x ≤ v then [kidA x v, kidB x v] else if firstQ x ≤ v then (seqAt x (v - firstQ x)).2.2.map litN else []
inductive Obs (x : GrD) : Nat → Prop
  | out {l : Int} (h : l ∈ x.2.2.2) : Obs x (litN l)
  | kid {v u : Nat} (hv : Obs x v) (hu : u ∈ kidsO x v) : Obs x u
open Classical in
noncomputable def obsB (x : GrD) : List Bool := (List.range (grN x)).map fun u => decide (Obs x u)
theorem obsB_len {x : GrD} : (obsB x).length = grN x := by simp [obsB]
open Classical in
theorem obs_eq {x : GrD} {s : List Bool} (hl : s.length = grN x) (h : ∀ u, getB s u = true ↔ Obs x u) : s = obsB x := by
  refine getB_ext (by rw [hl, obsB_len]) fun u => ?_
  by_cases hu : u < grN x
  · have e : getB (obsB x) u = decide (Obs x u) := by simp [getB, obsB, hu]
    rw [e]
    exact Bool.eq_iff_iff.2 (by rw [h u, decide_eq_true_eq])
  · have h1 : getB s u = false := by simp [getB, List.getElem?_eq_none (show s.length ≤ u by omega)]
    have h2 : getB (obsB x) u = false := by simp [getB, List.getElem?_eq_none (show (obsB x).length ≤ u by rw [obsB_len]; omega)]
    rw [h1, h2]
theorem root_lt {x : GrD} (hok : netOkB x = true) {l : Int} (h : l ∈ grRoots x) : 0 ≤ l ∧ litN l < grN x := by
  obtain ⟨-, -, o2, -⟩ := netOk_of hok
  have := o2 l h
  unfold litN
  omega
theorem outs_root {x : GrD} {l : Int} (h : l ∈ x.2.2.2) : l ∈ grRoots x := List.mem_append_left _ h
theorem seqAt_mem {x : GrD} {i : Nat} (h : i < x.2.1.length) : x.2.1[i]? = some (seqAt x i) ∧ seqAt x i ∈ x.2.1 := by
  have e : x.2.1[i]? = some (seqAt x i) := by unfold seqAt; rw [List.getElem?_eq_getElem h]; rfl
  exact ⟨e, List.mem_of_getElem? e⟩
theorem seq_root {x : GrD} {i : Nat} (h : i < x.2.1.length) {l : Int} (hl : l ∈ (seqAt x i).2.2) : l ∈ grRoots x := by
  refine List.mem_append_right _ ?_
  exact List.mem_flatten.2 ⟨_, List.mem_map.2 ⟨_, (seqAt_mem h).2, rfl⟩, hl⟩
theorem firstG_eq {x : GrD} : firstG x = firstQ x + x.2.1.length := rfl
theorem kids_in {x : GrD} (hok : netOkB x = true) {v u : Nat} (hv : v < grN x) (hu : u ∈ kidsO x v) : u < grN x := by
  unfold kidsO at hu
  split at hu
  · rename_i h
    obtain ⟨a, b⟩ := kids_lt hok v h hv
    simp only [List.mem_cons, List.not_mem_nil, or_false] at hu
    rcases hu with rfl | rfl <;> omega
  · split at hu
    · rename_i h1 h2
      obtain ⟨l, hl, rfl⟩ := List.mem_map.1 hu
      have := firstG_eq (x := x)
      exact (root_lt hok (seq_root (by omega) hl)).2
    · simp at hu
theorem obs_lt {x : GrD} (hok : netOkB x = true) {u : Nat} (h : Obs x u) : u < grN x := by
  induction h with
  | out h => exact (root_lt hok (outs_root h)).2
  | kid hv hu ih => exact kids_in hok ih hu
theorem obs_rch {x : GrD} {v u : Nat} (h : Rch (firstG x) (kidA x) (kidB x) v u) (hv : Obs x v) : Obs x u := by
  induction h with
  | refl v => exact hv
  | a h r ih => exact ih (.kid hv (by unfold kidsO; rw [if_pos h]; simp))
  | b h r ih => exact ih (.kid hv (by unfold kidsO; rw [if_pos h]; simp))

/-! ### A search with a list of what is left to do -/
def visO (s : List Bool × List Nat) (v : Nat) : List Bool × List Nat := if getB s.1 v = true then s else (s.1.set v true, s.2 ++ [v])
def cntO (s : List Bool) : Nat := s.count false
theorem cntO_set : ∀ {s : List Bool} {v : Nat}, v < s.length → getB s v = false → cntO (s.set v true) + 1 = cntO s
  | b :: s, 0, _, h => by
    have : b = false := by simpa [getB] using h
    subst this
    simp [cntO]
  | b :: s, v + 1, hv, h => by
    have ih := cntO_set (s := s) (v := v) (by simpa using hv) (by simpa [getB] using h)
    simp only [cntO, List.set_cons_succ, List.count_cons] at ih ⊢
    omega
/-- What holds between two steps; N: the number of nodes. -/
structure InvO (x : GrD) (s : List Bool × List Nat) : Prop where
  len : s.1.length = grN x
  obs : ∀ u, getB s.1 u = true → Obs x u
  lt : ∀ u ∈ s.2, u < grN x
  seen : ∀ u ∈ s.2, getB s.1 u = true
  small : 2 * cntO s.1 + s.2.length ≤ 2 * grN x
/-- The nodes that are marked and done have their kids marked. -/
def DoneO (x : GrD) (s : List Bool × List Nat) : Prop := ∀ u, getB s.1 u = true → u ∉ s.2 → ∀ k ∈ kidsO x u, getB s.1 k = true
theorem getB_lt {s : List Bool} {u : Nat} (h : getB s u = true) : u < s.length := by
  unfold getB at h
  cases e : s[u]? with
  | none => rw [e] at h; cases h
  | some b => exact (List.getElem?_eq_some_iff.1 e).1
theorem visO_facts {x : GrD} {s : List Bool × List Nat} {v : Nat} (h : InvO x s) (hv : Obs x v) (hl : v < grN x) :
    InvO x (visO s v) ∧ getB (visO s v).1 v = true ∧ (∀ u, getB s.1 u = true → getB (visO s v).1 u = true) ∧ (∀ u, getB (visO s v).1 u = true → getB s.1 u = true ∨ u ∈ (visO s v).2) ∧ (∀ u ∈ s.2, u ∈ (visO s v).2) ∧
      2 * cntO (visO s v).1 + (visO s v).2.length ≤ 2 * cntO s.1 + s.2.length := by
  unfold visO
  split
  · rename_i hs
    exact ⟨h, hs, fun u h => h, fun u h => .inl h, fun u h => h, Nat.le_refl _⟩
  · rename_i hs
    have hs' : getB s.1 v = false := by simpa using hs
    have hg : ∀ u, (getB (s.1.set v true) u = true ↔ u = v ∨ getB s.1 u = true) := fun u => by rw [getB_set (by rw [h.len]; exact hl)]; simp
    have hc := cntO_set (s := s.1) (v := v) (by rw [h.len]; exact hl) hs'
    have hsm := h.small
    refine ⟨⟨by simp [h.len], fun u hu => ?_, fun u hu => ?_, fun u hu => ?_, by simp; omega⟩, (hg v).2 (.inl rfl), fun u hu => (hg u).2 (.inr hu), fun u hu => ?_, fun u hu => by simp [hu], by simp; omega⟩
    · rcases (hg u).1 hu with rfl | hu
      · exact hv
      · exact h.obs u hu
    · simp only [List.mem_append, List.mem_singleton] at hu
      rcases hu with hu | rfl
      · exact h.lt u hu
      · exact hl
    · simp only [List.mem_append, List.mem_singleton] at hu
      rcases hu with hu | rfl
      · exact (hg u).2 (.inr (h.seen u hu))
      · exact (hg u).2 (.inl rfl)
    · rcases (hg u).1 hu with rfl | hu
      · exact .inr (by simp)
      · exact .inl hu
/-- Several visits, one by one. -/
theorem visO_all {x : GrD} : ∀ (vs : List Nat) {s : List Bool × List Nat}, InvO x s → (∀ v ∈ vs, Obs x v ∧ v < grN x) →
    InvO x (vs.foldl visO s) ∧ (∀ v ∈ vs, getB (vs.foldl visO s).1 v = true) ∧ (∀ u, getB s.1 u = true → getB (vs.foldl visO s).1 u = true) ∧ (∀ u, getB (vs.foldl visO s).1 u = true → getB s.1 u = true ∨ u ∈ (vs.foldl visO s).2) ∧ (∀ u ∈ s.2, u ∈ (vs.foldl visO s).2) ∧
      2 * cntO (vs.foldl visO s).1 + (vs.foldl visO s).2.length ≤ 2 * cntO s.1 + s.2.length
  | [], s, h, _ => ⟨h, by simp, fun u h => h, fun u h => .inl h, fun u h => h, Nat.le_refl _⟩
  | v :: vs, s, h, hv => by
    obtain ⟨a1, a2, a3, a4, a5, a6⟩ := visO_facts h (hv v (by simp)).1 (hv v (by simp)).2
    obtain ⟨b1, b2, b3, b4, b5, b6⟩ := visO_all vs a1 fun u hu => hv u (by simp [hu])
    refine ⟨b1, fun u hu => ?_, fun u hu => b3 u (a3 u hu), fun u hu => ?_, fun u hu => b5 u (a5 u hu), Nat.le_trans b6 a6⟩
    · rcases List.mem_cons.1 hu with rfl | hu
      · exact b3 _ a2
      · exact b2 u hu
    · rcases b4 u hu with h | h
      · rcases a4 u h with h | h
        · exact .inl h
        · exact .inr (b5 u h)
      · exact .inr h
theorem popO {x : GrD} {s : List Bool} {t : List Nat} {v : Nat} (h : InvO x (s, t ++ [v])) : InvO x (s, t) ∧ Obs x v ∧ v < grN x ∧ getB s v = true ∧ 2 * cntO s + t.length + 1 ≤ 2 * grN x := by
  have h1 := h.seen v (by simp)
  have h2 := h.small
  simp only [List.length_append, List.length_cons, List.length_nil] at h2
  exact ⟨⟨h.len, h.obs, fun u hu => h.lt u (by simp [hu]), fun u hu => h.seen u (by simp [hu]), by simp only; omega⟩, h.obs v h1, h.lt v (by simp), h1, by omega⟩
/-- A step: a node is taken, its kids are visited. -/
theorem stepO {x : GrD} (hok : netOkB x = true) {s : List Bool} {t : List Nat} {v : Nat} (h : InvO x (s, t ++ [v])) (hd : DoneO x (s, t ++ [v])) :
    InvO x ((kidsO x v).foldl visO (s, t)) ∧ DoneO x ((kidsO x v).foldl visO (s, t)) ∧ (∀ u, getB s u = true → getB ((kidsO x v).foldl visO (s, t)).1 u = true) ∧
      2 * cntO ((kidsO x v).foldl visO (s, t)).1 + ((kidsO x v).foldl visO (s, t)).2.length < 2 * cntO s + (t ++ [v]).length := by
  obtain ⟨h1, h2, h3, h4, h5⟩ := popO h
  obtain ⟨b1, b2, b3, b4, b5, b6⟩ := visO_all (kidsO x v) h1 fun u hu => ⟨.kid h2 hu, kids_in hok h3 hu⟩
  refine ⟨b1, fun u hu hn k hk => ?_, b3, by simp only [List.length_append, List.length_cons, List.length_nil] at b6 ⊢; omega⟩
  by_cases huv : u = v
  · subst huv
    exact b2 k hk
  · rcases b4 u hu with h | h
    · exact b3 k (hd u h (fun hm => by
        rcases List.mem_append.1 hm with hm | hm
        · exact hn (b5 u hm)
        · exact huv (List.mem_singleton.1 hm)) k hk)
    · exact absurd h hn
theorem startO {x : GrD} (hok : netOkB x = true) : InvO x (x.2.2.2.map litN |>.foldl visO (List.replicate (grN x) false, [])) ∧ DoneO x (x.2.2.2.map litN |>.foldl visO (List.replicate (grN x) false, [])) ∧ ∀ l ∈ x.2.2.2, getB (x.2.2.2.map litN |>.foldl visO (List.replicate (grN x) false, [])).1 (litN l) = true := by
  have h0 : InvO x (List.replicate (grN x) false, []) := ⟨by simp, fun u h => (by rw [getB_rep] at h; cases h), by simp, by simp, by simp [cntO]⟩
  obtain ⟨b1, b2, b3, b4, b5, b6⟩ := visO_all (x.2.2.2.map litN) h0 fun u hu => by
    obtain ⟨l, hl, rfl⟩ := List.mem_map.1 hu
    exact ⟨.out hl, (root_lt hok (outs_root hl)).2⟩
  refine ⟨b1, fun u hu hn => ?_, fun l hl => b2 _ (List.mem_map.2 ⟨l, hl, rfl⟩)⟩
  rcases b4 u hu with h | h
  · rw [getB_rep] at h; cases h
  · exact absurd h hn
theorem endO {x : GrD} {s : List Bool} (h : InvO x (s, [])) (hd : DoneO x (s, [])) (ho : ∀ l ∈ x.2.2.2, getB s (litN l) = true) : s = obsB x := by
  refine obs_eq h.len fun u => ⟨h.obs u, fun hu => ?_⟩
  induction hu with
  | out h => exact ho _ h
  | kid hv hu ih => exact hd _ ih (by simp) _ hu

/-! ### Rounds of marks -/
def setN (s : List Bool) (v : Nat) : List Bool := s.set v true
def msK (x : GrD) (m : List Bool) : Nat → List Bool
  | 0 => m
  | i + 1 => if getB (msK x m i) (firstQ x + i) = true then ((seqAt x i).2.2.map litN).foldl setN (msK x m i) else msK x m i
def rdK (x : GrD) (m : List Bool) : Nat → List Bool
  | 0 => m
  | r + 1 => msK x (sweepG x (rdK x m r)) x.2.1.length
def outM (x : GrD) : List Bool := (x.2.2.2.map litN).foldl setN (List.replicate (grN x) false)
theorem setN_all : ∀ (vs : List Nat) {s : List Bool}, (∀ v ∈ vs, v < s.length) → (vs.foldl setN s).length = s.length ∧ ∀ u, (getB (vs.foldl setN s) u = true ↔ getB s u = true ∨ u ∈ vs)
  | [], s, _ => ⟨rfl, fun u => by simp⟩
  | v :: vs, s, h => by
    have hv := h v (by simp)
    obtain ⟨a, b⟩ := setN_all vs (s := setN s v) (fun u hu => by simpa [setN] using h u (by simp [hu]))
    refine ⟨by simpa [setN] using a, fun u => ?_⟩
    simp only [List.foldl_cons]
    rw [b u, setN, getB_set hv]
    simp only [Bool.or_eq_true, decide_eq_true_eq, List.mem_cons]
    constructor
    · rintro ((h | h) | h)
      · exact .inr (.inl h)
      · exact .inl h
      · exact .inr (.inr h)
    · rintro (h | h | h)
      · exact .inl (.inr h)
      · exact .inl (.inl h)
      · exact .inr h
theorem seqKid {x : GrD} {i : Nat} (h : i < x.2.1.length) : kidsO x (firstQ x + i) = (seqAt x i).2.2.map litN := by
  unfold kidsO
  rw [if_neg (by have := firstG_eq (x := x); omega), if_pos (by omega), Nat.add_sub_cancel_left]
theorem msK_facts {x : GrD} (hok : netOkB x = true) {m : List Bool} (hl : m.length = grN x) (ho : ∀ u, getB m u = true → Obs x u) : ∀ i, i ≤ x.2.1.length →
    (msK x m i).length = grN x ∧ (∀ u, getB (msK x m i) u = true → Obs x u) ∧ (∀ u, getB m u = true → getB (msK x m i) u = true) ∧ ∀ j, j < i → getB m (firstQ x + j) = true → ∀ k ∈ kidsO x (firstQ x + j), getB (msK x m i) k = true
  | 0, _ => ⟨hl, ho, fun u h => h, fun j h => by omega⟩
  | i + 1, hi => by
    obtain ⟨a, b, c, d⟩ := msK_facts hok hl ho i (by omega)
    have hk := seqKid (x := x) (i := i) (by omega)
    unfold msK
    split
    · rename_i hs
      have hob := b _ hs
      obtain ⟨e, f⟩ := setN_all ((seqAt x i).2.2.map litN) (s := msK x m i) (fun v hv => by rw [a]; exact kids_in hok (obs_lt hok hob) (hk ▸ hv))
      refine ⟨by rw [e, a], fun u hu => ?_, fun u hu => (f u).2 (.inl (c u hu)), fun j hj hm k hkk => ?_⟩
      · rcases (f u).1 hu with h | h
        · exact b u h
        · exact .kid hob (hk ▸ h)
      · by_cases hji : j = i
        · subst hji
          exact (f k).2 (.inr (hk ▸ hkk))
        · exact (f k).2 (.inl (d j (by omega) hm k hkk))
    · rename_i hs
      refine ⟨a, b, c, fun j hj hm k hkk => ?_⟩
      by_cases hji : j = i
      · subst hji
        exact absurd (c _ hm) hs
      · exact d j (by omega) hm k hkk
theorem sweepG_len {x : GrD} {m : List Bool} : (sweepG x m).length = m.length := swK_len _
theorem sweepG_facts {x : GrD} (hok : netOkB x = true) {m : List Bool} (hl : m.length = grN x) (ho : ∀ u, getB m u = true → Obs x u) :
    (∀ u, getB (sweepG x m) u = true → Obs x u) ∧ (∀ u, getB m u = true → getB (sweepG x m) u = true) ∧ ∀ u, getB (sweepG x m) u = true → firstG x ≤ u → ∀ k ∈ kidsO x u, getB (sweepG x m) k = true := by
  have h := sweep_iff hok hl
  refine ⟨fun u hu => ?_, fun u hu => (h u).2 ⟨u, hu, .refl u⟩, fun u hu hF k hk => ?_⟩
  · obtain ⟨r, hr, hru⟩ := (h u).1 hu
    exact obs_rch hru (ho r hr)
  · obtain ⟨r, hr, hru⟩ := (h u).1 hu
    unfold kidsO at hk
    rw [if_pos hF] at hk
    simp only [List.mem_cons, List.not_mem_nil, or_false] at hk
    rcases hk with rfl | rfl
    · exact (h _).2 ⟨r, hr, hru.snoc_a hF⟩
    · exact (h _).2 ⟨r, hr, hru.snoc_b hF⟩
theorem outM_facts {x : GrD} (hok : netOkB x = true) : (outM x).length = grN x ∧ (∀ u, getB (outM x) u = true → Obs x u) ∧ ∀ l ∈ x.2.2.2, getB (outM x) (litN l) = true := by
  obtain ⟨a, b⟩ := setN_all (x.2.2.2.map litN) (s := List.replicate (grN x) false) (fun v hv => by
    obtain ⟨l, hl, rfl⟩ := List.mem_map.1 hv
    simpa using (root_lt hok (outs_root hl)).2)
  refine ⟨by unfold outM; rw [a]; simp, fun u hu => ?_, fun l hl => (b _).2 (.inr (List.mem_map.2 ⟨l, hl, rfl⟩))⟩
  rcases (b u).1 hu with h | h
  · rw [getB_rep] at h; cases h
  · obtain ⟨l, hl, rfl⟩ := List.mem_map.1 h
    exact .out hl
theorem rdK_facts {x : GrD} (hok : netOkB x = true) : ∀ r, (rdK x (outM x) r).length = grN x ∧ (∀ u, getB (rdK x (outM x) r) u = true → Obs x u) ∧ ∀ l ∈ x.2.2.2, getB (rdK x (outM x) r) (litN l) = true
  | 0 => outM_facts hok
  | r + 1 => by
    obtain ⟨a, b, c⟩ := rdK_facts hok r
    obtain ⟨s1, s2, s3⟩ := sweepG_facts hok a b
    obtain ⟨e, f, g, h⟩ := msK_facts hok (m := sweepG x (rdK x (outM x) r)) (by rw [sweepG_len, a]) s1 x.2.1.length (Nat.le_refl _)
    exact ⟨e, f, fun l hl => g _ (s2 _ (c l hl))⟩
theorem rdK_step {x : GrD} (hok : netOkB x = true) (r : Nat) : (∀ u, getB (sweepG x (rdK x (outM x) r)) u = true → getB (sweepG x (rdK x (outM x) (r + 1))) u = true) ∧
    ∀ j, j < x.2.1.length → getB (sweepG x (rdK x (outM x) r)) (firstQ x + j) = true → ∀ k ∈ kidsO x (firstQ x + j), getB (sweepG x (rdK x (outM x) (r + 1))) k = true := by
  obtain ⟨a, b, c⟩ := rdK_facts hok r
  obtain ⟨a', b', c'⟩ := rdK_facts hok (r + 1)
  obtain ⟨s1, s2, s3⟩ := sweepG_facts hok a b
  obtain ⟨t1, t2, t3⟩ := sweepG_facts hok a' b'
  obtain ⟨e, f, g, h⟩ := msK_facts hok (m := sweepG x (rdK x (outM x) r)) (by rw [sweepG_len, a]) s1 x.2.1.length (Nat.le_refl _)
  exact ⟨fun u hu => t2 u (g u hu), fun j hj hm k hk => t2 k (h j hj hm k hk)⟩
theorem countP_lt {p q : Nat → Bool} : ∀ (l : List Nat), (∀ i ∈ l, p i = true → q i = true) → (∃ i ∈ l, q i = true ∧ p i = false) → l.countP p < l.countP q
  | [], _, h => by obtain ⟨i, hi, _⟩ := h; simp at hi
  | a :: l, hm, h => by
    have hle : l.countP p ≤ l.countP q := List.countP_mono_left fun i hi hp => hm i (by simp [hi]) hp
    obtain ⟨i, hi, hq, hp⟩ := h
    rw [List.countP_cons, List.countP_cons]
    rcases List.mem_cons.1 hi with rfl | hi
    · rw [hq, hp]; simp; omega
    · have ih := countP_lt l (fun i hi => hm i (by simp [hi])) ⟨i, hi, hq, hp⟩
      have := hm a (by simp)
      cases hpa : p a with
      | false => cases q a <;> simp <;> omega
      | true => rw [this hpa]; simp; omega
def cntS (x : GrD) (r : Nat) : Nat := (List.range x.2.1.length).countP fun i => getB (sweepG x (rdK x (outM x) r)) (firstQ x + i)
theorem cntS_le {x : GrD} {r : Nat} : cntS x r ≤ x.2.1.length := by
  have := List.countP_le_length (p := fun i => getB (sweepG x (rdK x (outM x) r)) (firstQ x + i)) (l := List.range x.2.1.length)
  simpa [cntS] using this
theorem some_still {x : GrD} (hok : netOkB x = true) : ∃ r, r ≤ x.2.1.length ∧ ∀ i, i < x.2.1.length → getB (sweepG x (rdK x (outM x) (r + 1))) (firstQ x + i) = true → getB (sweepG x (rdK x (outM x) r)) (firstQ x + i) = true := by
  by_cases h : ∃ r, r ≤ x.2.1.length ∧ ∀ i, i < x.2.1.length → getB (sweepG x (rdK x (outM x) (r + 1))) (firstQ x + i) = true → getB (sweepG x (rdK x (outM x) r)) (firstQ x + i) = true
  · exact h
  have hs : ∀ r, r ≤ x.2.1.length → cntS x r < cntS x (r + 1) := fun r hr => by
    refine countP_lt _ (fun i hi hp => (rdK_step hok r).1 _ hp) ?_
    obtain ⟨i, h1⟩ := Classical.not_forall.1 fun hc => h ⟨r, hr, hc⟩
    obtain ⟨hi, h2⟩ := Classical.not_imp.1 h1
    obtain ⟨hq, hp⟩ := Classical.not_imp.1 h2
    exact ⟨i, List.mem_range.2 hi, hq, by simpa using hp⟩
  have hc : ∀ r, r ≤ x.2.1.length + 1 → r ≤ cntS x r := by
    intro r
    induction r with
    | zero => intro _; exact Nat.zero_le _
    | succ r ih => intro hr; have := ih (by omega); have := hs r (by omega); omega
  have := hc (x.2.1.length + 1) (Nat.le_refl _)
  have := cntS_le (x := x) (r := x.2.1.length + 1)
  omega
/-- After a round more than there are sequential elements, just what can be observed is marked. -/
theorem rounds_obs {x : GrD} (hok : netOkB x = true) : sweepG x (rdK x (outM x) (x.2.1.length + 1)) = obsB x := by
  obtain ⟨a, b, c⟩ := rdK_facts hok (x.2.1.length + 1)
  obtain ⟨s1, s2, s3⟩ := sweepG_facts hok a b
  obtain ⟨r, hr, hst⟩ := some_still hok
  have hmono : ∀ d u, getB (sweepG x (rdK x (outM x) (r + 1))) u = true → getB (sweepG x (rdK x (outM x) (r + 1 + d))) u = true := by
    intro d
    induction d with
    | zero => exact fun u h => h
    | succ d ih => exact fun u h => (rdK_step hok (r + 1 + d)).1 u (ih u h)
  refine obs_eq (by rw [sweepG_len, a]) fun u => ⟨s1 u, fun hu => ?_⟩
  have key : getB (sweepG x (rdK x (outM x) (r + 1))) u = true := by
    obtain ⟨a', b', c'⟩ := rdK_facts hok (r + 1)
    obtain ⟨t1, t2, t3⟩ := sweepG_facts hok a' b'
    induction hu with
    | out h => exact t2 _ (c' _ h)
    | @kid v u hv hu ih =>
      by_cases hF : firstG x ≤ v
      · exact t3 v ih hF _ hu
      · by_cases hQ : firstQ x ≤ v
        · have hlt : v - firstQ x < x.2.1.length := by have := firstG_eq (x := x); omega
          have hv' : firstQ x + (v - firstQ x) = v := by omega
          exact (rdK_step hok r).2 (v - firstQ x) hlt (hst _ hlt (by rw [hv']; exact ih)) _ (by rw [hv']; exact hu)
        · unfold kidsO at hu
          rw [if_neg hF, if_neg hQ] at hu
          simp at hu
  have := hmono (x.2.1.length - r) u key
  rwa [show r + 1 + (x.2.1.length - r) = x.2.1.length + 1 by omega] at this
end Go.Proofs.Ytklhofpjjbfckaa
namespace Go.Proofs.Ytklhofpjjbfckaa
set_option linter.unusedVariables false
def mnI (a b : Int) : Int := if b < a then b else a
def mxI (a b : Int) : Int := if a < b then b else a
def trivB (a b : Int) : Bool := decide (a = 0) || decide (b = 0) || decide (xor64 a 1 = b) || decide (a = 1) || decide (a = b) || decide (b = 1)
def trivV (a b : Int) : Int := if a = 0 ∨ b = 0 ∨ xor64 a 1 = b then 0 else if a = 1 ∨ a = b then b else a
/-- The place of a node; the length if there is none. -/
def fndL (an : List AndD) (x : AndD) : Nat := an.findIdx fun y => decide (y = x)
/-- The literal of a conjunction; fa: the number of the first AND node. -/
def addV (fa : Int) (an : List AndD) (a b : Int) : Int :=
  if trivB a b = true then trivV a b else if fndL an (mnI a b, mxI a b) < an.length then 2 * (fa + fndL an (mnI a b, mxI a b)) else if an.length < 300 then 2 * (fa + an.length) else -1
/-- Whether a node is added. -/
def addM (an : List AndD) (a b : Int) : Bool := !trivB a b && decide (¬ fndL an (mnI a b, mxI a b) < an.length) && decide (an.length < 300)
def addN (an : List AndD) (a b : Int) : List AndD := if addM an a b = true then an ++ [(mnI a b, mxI a b)] else an
theorem fnd_at {an : List AndD} {x : AndD} {i : Nat} (h : an[i]? = some x) (hpre : ∀ j : Nat, j < i → an[j]? ≠ some x) : fndL an x = i := by
  obtain ⟨hi, e⟩ := List.getElem?_eq_some_iff.1 h
  unfold fndL
  rw [List.findIdx_eq hi]
  refine ⟨by simpa using e, fun j hj => ?_⟩
  have := hpre j hj
  rw [List.getElem?_eq_getElem (by omega)] at this
  simpa using this
theorem fnd_none {an : List AndD} {x : AndD} (hpre : ∀ j : Nat, j < an.length → an[j]? ≠ some x) : fndL an x = an.length := by
  unfold fndL
  rw [List.findIdx_eq_length]
  intro y hy
  obtain ⟨j, hj, rfl⟩ := List.mem_iff_getElem.1 hy
  have := hpre j hj
  rw [List.getElem?_eq_getElem hj] at this
  simpa using this
theorem addN_len {an : List AndD} {a b : Int} : an.length ≤ (addN an a b).length ∧ (addN an a b).length ≤ an.length + 1 := by
  unfold addN; split <;> simp
end Go.Proofs.Ytklhofpjjbfckaa
namespace Go.Proofs.Ytklhofpjjbfckaa
set_option linter.unusedVariables false

/-- A literal under a list of places. -/
def mapV (pl : List Int) (l : Int) : Int := xor64 (atI pl (l / 2)) (l % 2)
theorem flip_half {v : Int} (h : 0 ≤ v) : flip v / 2 = v / 2 ∧ 0 ≤ flip v := by unfold flip; split <;> omega
theorem flip_flip {v : Int} (h : 0 ≤ v) : flip (flip v) = v := by unfold flip; split <;> split <;> omega
theorem mapV_eq {pl : List Int} {l : Int} (h0 : 0 ≤ atI pl (l / 2)) (h1 : atI pl (l / 2) ≤ 1048576) : mapV pl l = if l % 2 = 0 then atI pl (l / 2) else flip (atI pl (l / 2)) := by
  unfold mapV
  split
  · rename_i h; rw [h, xor64_zero h0 (by omega)]
  · rename_i h; rw [show l % 2 = 1 by omega, xor64_one h0 (by omega)]
theorem mapV_rng {pl : List Int} {l : Int} {n : Int} (h : 0 ≤ atI pl (l / 2) ∧ atI pl (l / 2) < 2 * n) (hn : n ≤ 1000) : 0 ≤ mapV pl l ∧ mapV pl l < 2 * n := by
  rw [mapV_eq h.1 (by omega)]
  split
  · exact h
  · have := flip_half h.1; omega
/-- Literals whose nodes have places. -/
def litsAt (n : Nat) (ls : List Int) : Prop := ∀ l ∈ ls, 0 ≤ l ∧ l < 2 * (n : Int)
/-- Places: each a literal of a node below n. -/
def plIn (n : Int) (pl : List Int) : Prop := ∀ v ∈ pl, 0 ≤ v ∧ v < 2 * n
theorem plIn_at {n : Int} {pl : List Int} (h : plIn n pl) (hn : 0 < n) (k : Int) : 0 ≤ atI pl k ∧ atI pl k < 2 * n := by
  unfold atI
  cases e : pl[k.toNat]? with
  | none => simp only [Option.getD_none]; omega
  | some v => simpa using h v (List.mem_of_getElem? e)
theorem atI_append {pl qs : List Int} {k : Int} (h0 : 0 ≤ k) (h : k < pl.length) : atI (pl ++ qs) k = atI pl k := by
  unfold atI
  rw [List.getElem?_append_left (by omega)]
theorem mapV_append {pl qs : List Int} {l : Int} (h : 0 ≤ l ∧ l < 2 * (pl.length : Int)) : mapV (pl ++ qs) l = mapV pl l := by
  unfold mapV
  rw [atI_append (by omega) (by omega)]

/-! ### What adding gives -/
theorem trivV_rng {a b n : Int} (ha : 0 ≤ a ∧ a < 2 * n) (hb : 0 ≤ b ∧ b < 2 * n) : 0 ≤ trivV a b ∧ trivV a b < 2 * n := by
  unfold trivV; split <;> (try split) <;> omega
theorem mn_rng {a b : Int} {P : Int → Prop} (ha : P a) (hb : P b) : P (mnI a b) ∧ P (mxI a b) := by
  unfold mnI mxI
  constructor <;> split <;> assumption
theorem addV_rng {fa : Int} {an : List AndD} {a b : Int} (hf : 0 ≤ fa) (ha : 0 ≤ a ∧ a < 2 * (fa + an.length)) (hb : 0 ≤ b ∧ b < 2 * (fa + an.length)) : -1 ≤ addV fa an a b ∧ addV fa an a b < 2 * (fa + (addN an a b).length) := by
  have hl := addN_len (an := an) (a := a) (b := b)
  unfold addV
  split
  · have := trivV_rng ha hb; omega
  · rename_i ht
    split
    · omega
    · rename_i hf2
      split
      · rename_i h3
        have : addM an a b = true := by unfold addM; simp [ht, hf2, h3]
        unfold addN
        rw [if_pos this]
        simp; omega
      · omega
theorem addV_neg {fa : Int} {an : List AndD} {a b : Int} (hf : 0 ≤ fa) (ha : 0 ≤ a) (hb : 0 ≤ b) : (addV fa an a b < 0 → addN an a b = an ∧ addV fa an a b = -1) := by
  intro h
  unfold addV at h ⊢
  split at h
  · rename_i ht
    exfalso
    unfold trivV at h
    split at h
    · omega
    · split at h <;> omega
  · rename_i ht
    split at h
    · omega
    · rename_i hf2
      split at h
      · omega
      · rename_i h3
        refine ⟨?_, by rw [if_neg ht, if_neg hf2, if_neg h3]⟩
        unfold addN
        rw [if_neg (by unfold addM; simp [h3])]
theorem addN_300 {an : List AndD} {a b : Int} (h : an.length ≤ 300) : (addN an a b).length ≤ 300 := by
  unfold addN
  split
  · rename_i hm
    unfold addM at hm
    simp only [Bool.and_eq_true, decide_eq_true_eq] at hm
    simp; omega
  · exact h
def orV (fa : Int) (an : List AndD) (a b : Int) : Int := if addV fa an (flip a) (flip b) < 0 then -1 else flip (addV fa an (flip a) (flip b))
/-- An exclusive disjunction: its literal, the AND nodes. -/
def xorR (fa : Int) (an : List AndD) (a b : Int) : Int × List AndD :=
  if addV fa an a (flip b) < 0 then (-1, addN an a (flip b))
  else if addV fa (addN an a (flip b)) (flip a) b < 0 then (-1, addN (addN an a (flip b)) (flip a) b)
  else (orV fa (addN (addN an a (flip b)) (flip a) b) (addV fa an a (flip b)) (addV fa (addN an a (flip b)) (flip a) b),
    addN (addN (addN an a (flip b)) (flip a) b) (flip (addV fa an a (flip b))) (flip (addV fa (addN an a (flip b)) (flip a) b)))
/-- The AND nodes that a net is built of. -/
def ansOk (fa : Int) (an : List AndD) : Prop := andsFit fa 0 an = true
theorem andFits_iff {n : Int} {x : AndD} : andFits n x = true ↔ (0 ≤ x.1 ∧ x.1 < 2 * n) ∧ 0 ≤ x.2 ∧ x.2 < 2 * n := by
  unfold andFits
  rw [Bool.and_eq_true, rng_iff, rng_iff]
  omega
theorem ansOk_add {fa : Int} {an : List AndD} {a b : Int} (h : ansOk fa an) (ha : 0 ≤ a ∧ a < 2 * (fa + an.length)) (hb : 0 ≤ b ∧ b < 2 * (fa + an.length)) : ansOk fa (addN an a b) := by
  unfold addN
  split
  · unfold ansOk at h ⊢
    have := andsFit_snoc (f := fa) (xs := an ++ [(mnI a b, mxI a b)]) (k := an.length) (x := (mnI a b, mxI a b)) (by simp)
    rw [List.take_of_length_le (by simp), List.take_left' rfl, h, Bool.true_and] at this
    rw [this, andFits_iff]
    exact mn_rng (P := fun x => 0 ≤ x ∧ x < 2 * (fa + (an.length : Int))) ha hb
  · exact h

/-! ### Importing a net's AND nodes; skip: the one that has a literal given instead -/
def impR (x : GrD) (fa skip inst : Int) (to0 : List Int) (an0 : List AndD) : Nat → List Int × List AndD × Bool
  | 0 => (to0, an0, true)
  | i + 1 =>
    if (impR x fa skip inst to0 an0 i).2.2 = false then impR x fa skip inst to0 an0 i
    else if (i : Int) = skip then ((impR x fa skip inst to0 an0 i).1 ++ [inst], (impR x fa skip inst to0 an0 i).2.1, true)
    else if addV fa (impR x fa skip inst to0 an0 i).2.1 (mapV (impR x fa skip inst to0 an0 i).1 (andAt x (firstG x + i)).1) (mapV (impR x fa skip inst to0 an0 i).1 (andAt x (firstG x + i)).2) < 0 then ((impR x fa skip inst to0 an0 i).1, (impR x fa skip inst to0 an0 i).2.1, false)
    else ((impR x fa skip inst to0 an0 i).1 ++ [addV fa (impR x fa skip inst to0 an0 i).2.1 (mapV (impR x fa skip inst to0 an0 i).1 (andAt x (firstG x + i)).1) (mapV (impR x fa skip inst to0 an0 i).1 (andAt x (firstG x + i)).2)],
      addN (impR x fa skip inst to0 an0 i).2.1 (mapV (impR x fa skip inst to0 an0 i).1 (andAt x (firstG x + i)).1) (mapV (impR x fa skip inst to0 an0 i).1 (andAt x (firstG x + i)).2), true)
/-- What holds of an import: the places, the AND nodes. -/
structure ImpOk (fa : Int) (n : Nat) (s : List Int × List AndD × Bool) : Prop where
  len : s.2.2 = true → s.1.length = n
  le : s.1.length ≤ n
  pl : plIn (fa + s.2.1.length) s.1
  an : s.2.1.length ≤ 300
  ok : ansOk fa s.2.1
theorem plIn_mono {n m : Int} {pl : List Int} (h : plIn n pl) (hm : n ≤ m) : plIn m pl := fun v hv => ⟨(h v hv).1, by have := (h v hv).2; omega⟩
theorem impR_ok {x : GrD} (hok : netOkB x = true) {fa skip inst : Int} {to0 : List Int} {an0 : List AndD} (hfa : 0 < fa ∧ fa ≤ 100) (hi : 0 ≤ inst ∧ inst < 2 * fa) (h0 : ImpOk fa (firstG x) (to0, an0, true)) :
    ∀ i, i ≤ x.2.2.1.length → ImpOk fa (firstG x + i) (impR x fa skip inst to0 an0 i) ∧ an0.length ≤ (impR x fa skip inst to0 an0 i).2.1.length
  | 0, _ => ⟨h0, Nat.le_refl _⟩
  | i + 1, hile => by
    obtain ⟨ih, ihl⟩ := impR_ok hok hfa hi h0 (skip := skip) i (by omega)
    obtain ⟨hF, hgl, hNi, hno⟩ := ok_sizes hok
    have hN := grN_eq x
    obtain ⟨-, a1, a2, a3, a4, a5, a6⟩ := and_at hok (v := firstG x + i) (by omega) (by omega)
    unfold impR
    generalize impR x fa skip inst to0 an0 i = s at *
    obtain ⟨to, an, b⟩ := s
    simp only at ih ihl ⊢
    split
    · rename_i hb
      subst hb
      exact ⟨⟨fun h => by simp at h, by have := ih.le; simp only at this ⊢; omega, ih.pl, ih.an, ih.ok⟩, ihl⟩
    · rename_i hb
      obtain rfl : b = true := by simpa using hb
      have hl := ih.len rfl
      have ha := ih.an
      simp only at hl ha
      split
      · refine ⟨⟨fun _ => by simp only [List.length_append, List.length_cons, List.length_nil]; omega, by simp only [List.length_append, List.length_cons, List.length_nil]; omega, fun v hv => ?_, ih.an, ih.ok⟩, ihl⟩
        simp only at hv ⊢
        rcases List.mem_append.1 hv with h | h
        · exact ih.pl v h
        · rw [List.mem_singleton.1 h]; omega
      · have r1 := mapV_rng (l := (andAt x (firstG x + i)).1) (plIn_at ih.pl (by simp only; omega) ((andAt x (firstG x + i)).1 / 2)) (by simp only; omega)
        have r2 := mapV_rng (l := (andAt x (firstG x + i)).2) (plIn_at ih.pl (by simp only; omega) ((andAt x (firstG x + i)).2 / 2)) (by simp only; omega)
        simp only at r1 r2
        have h3 := addV_rng (fa := fa) (by omega) r1 r2
        have h4 := ansOk_add ih.ok r1 r2
        have h5 := addN_len (an := an) (a := mapV to (andAt x (firstG x + i)).1) (b := mapV to (andAt x (firstG x + i)).2)
        have h6 := addN_300 (a := mapV to (andAt x (firstG x + i)).1) (b := mapV to (andAt x (firstG x + i)).2) ha
        simp only at h4
        generalize mapV to (andAt x (firstG x + i)).1 = a at *
        generalize mapV to (andAt x (firstG x + i)).2 = b at *
        split
        · exact ⟨⟨fun h => by simp at h, by simp only; omega, ih.pl, ih.an, ih.ok⟩, ihl⟩
        · refine ⟨⟨fun _ => by simp only [List.length_append, List.length_cons, List.length_nil]; omega, by simp only [List.length_append, List.length_cons, List.length_nil]; omega, fun v hv => ?_, h6, h4⟩, by simp only; omega⟩
          simp only at hv ⊢
          rcases List.mem_append.1 hv with h | h
          · have := ih.pl v h; simp only at this; omega
          · rw [List.mem_singleton.1 h]; omega
/-- The places of the nodes that are no AND nodes. -/
def leafL (n : Nat) : List Int := (List.range n).map fun k : Nat => 2 * (k : Int)
theorem leafL_len {n : Nat} : (leafL n).length = n := by simp [leafL]
theorem leafL_snoc {n : Nat} : leafL (n + 1) = leafL n ++ [2 * (n : Int)] := by simp [leafL, List.range_succ]
theorem leafL_in {n : Nat} {m : Int} (h : (n : Int) ≤ m) : plIn m (leafL n) := fun v hv => by
  obtain ⟨k, hk, rfl⟩ := List.mem_map.1 hv
  have := List.mem_range.1 hk
  omega
end Go.Proofs.Ytklhofpjjbfckaa
namespace Go.Proofs.Ytklhofpjjbfckaa
set_option linter.unusedVariables false
/-- An import of all of a net's AND nodes. -/
def impA (x : GrD) (an0 : List AndD) (i : Nat) : List Int × List AndD × Bool := impR x (firstG x) (-1) 0 (leafL (firstG x)) an0 i
theorem impA_ok {x : GrD} (hok : netOkB x = true) {an0 : List AndD} (h1 : an0.length ≤ 300) (h2 : ansOk (firstG x) an0) {i : Nat} (hi : i ≤ x.2.2.1.length) : ImpOk (firstG x) (firstG x + i) (impA x an0 i) ∧ an0.length ≤ (impA x an0 i).2.1.length := by
  obtain ⟨⟨n1, n2, n3, n4, n5, n6⟩, -, -, -⟩ := netOk_of hok
  obtain ⟨hF, hgl, hNi, hno⟩ := ok_sizes hok
  exact impR_ok hok (by omega) (by omega) ⟨fun _ => leafL_len, Nat.le_of_eq leafL_len, leafL_in (by simp only; omega), h1, h2⟩ i hi
theorem impA_step {x : GrD} {an0 : List AndD} {i : Nat} {to : List Int} {an : List AndD} (h : impA x an0 i = (to, an, true)) :
    impA x an0 (i + 1) = if addV (firstG x) an (mapV to (andAt x (firstG x + i)).1) (mapV to (andAt x (firstG x + i)).2) < 0 then (to, an, false)
      else (to ++ [addV (firstG x) an (mapV to (andAt x (firstG x + i)).1) (mapV to (andAt x (firstG x + i)).2)], addN an (mapV to (andAt x (firstG x + i)).1) (mapV to (andAt x (firstG x + i)).2), true) := by
  unfold impA at h ⊢
  rw [impR, h]
  simp only [Bool.true_eq_false, if_false]
  rw [if_neg (by omega)]
theorem impA_false {x : GrD} {an0 : List AndD} {i : Nat} (h : (impA x an0 i).2.2 = false) : ∀ d, (impA x an0 (i + d)).2.2 = false
  | 0 => h
  | d + 1 => by
    have ih := impA_false h d
    unfold impA at ih ⊢
    rw [← Nat.add_assoc, impR, if_pos ih]
    exact ih
/-- The comparison of the roots, one by one. -/
def mitGo (fa : Int) (ra rb : List Int) (an0 : List AndD) : Nat → Int × List AndD × Bool
  | 0 => (0, an0, true)
  | i + 1 =>
    if (mitGo fa ra rb an0 i).2.2 = false then mitGo fa ra rb an0 i
    else if (xorR fa (mitGo fa ra rb an0 i).2.1 (ra.getD i 0) (rb.getD i 0)).1 < 0 then (0, [], false)
    else if orV fa (xorR fa (mitGo fa ra rb an0 i).2.1 (ra.getD i 0) (rb.getD i 0)).2 (mitGo fa ra rb an0 i).1 (xorR fa (mitGo fa ra rb an0 i).2.1 (ra.getD i 0) (rb.getD i 0)).1 < 0 then (0, [], false)
    else (orV fa (xorR fa (mitGo fa ra rb an0 i).2.1 (ra.getD i 0) (rb.getD i 0)).2 (mitGo fa ra rb an0 i).1 (xorR fa (mitGo fa ra rb an0 i).2.1 (ra.getD i 0) (rb.getD i 0)).1,
      addN (xorR fa (mitGo fa ra rb an0 i).2.1 (ra.getD i 0) (rb.getD i 0)).2 (flip (mitGo fa ra rb an0 i).1) (flip (xorR fa (mitGo fa ra rb an0 i).2.1 (ra.getD i 0) (rb.getD i 0)).1), true)
theorem mitGo_step {fa : Int} {ra rb : List Int} {an0 : List AndD} {i : Nat} {s : Int} {an : List AndD} (h : mitGo fa ra rb an0 i = (s, an, true)) :
    mitGo fa ra rb an0 (i + 1) = if (xorR fa an (ra.getD i 0) (rb.getD i 0)).1 < 0 then (0, [], false)
      else if orV fa (xorR fa an (ra.getD i 0) (rb.getD i 0)).2 s (xorR fa an (ra.getD i 0) (rb.getD i 0)).1 < 0 then (0, [], false)
      else (orV fa (xorR fa an (ra.getD i 0) (rb.getD i 0)).2 s (xorR fa an (ra.getD i 0) (rb.getD i 0)).1, addN (xorR fa an (ra.getD i 0) (rb.getD i 0)).2 (flip s) (flip (xorR fa an (ra.getD i 0) (rb.getD i 0)).1), true) := by
  rw [mitGo, h]
  simp only [Bool.true_eq_false, if_false]
theorem mitGo_false {fa : Int} {ra rb : List Int} {an0 : List AndD} {i : Nat} (h : (mitGo fa ra rb an0 i).2.2 = false) : ∀ d, (mitGo fa ra rb an0 (i + d)).2.2 = false
  | 0 => h
  | d + 1 => by
    have ih := mitGo_false h d
    rw [← Nat.add_assoc, mitGo, if_pos ih]
    exact ih
def compB (a b : GrD) : Bool := netOkB a && netOkB b && decide (a.1 = b.1) && decide (a.2.1.length = b.2.1.length) && decide (a.2.2.2.length = b.2.2.2.length) && decide (a.1 + (a.2.1.length : Int) ≤ 20) && (a.2.1.zip b.2.1).all fun p => decide (p.1.1 = p.2.1)
def imp1 (a : GrD) : List Int × List AndD × Bool := impA a [] a.2.2.1.length
def imp2 (a b : GrD) : List Int × List AndD × Bool := impA b (imp1 a).2.1 b.2.2.1.length
def rootsM (x : GrD) (to : List Int) : List Int := (grRoots x).map (mapV to)
def mitR (a b : GrD) : Int × List AndD × Bool := mitGo (firstG a) (rootsM a (imp1 a).1) (rootsM b (imp2 a b).1) (imp2 a b).2.1 (grRoots a).length
def mitOk (a b : GrD) : Bool := compB a b && (imp1 a).2.2 && (imp2 a b).2.2 && (mitR a b).2.2
def mitG (a b : GrD) : GrD := if mitOk a b = true then (a.1 + (a.2.1.length : Int), [], (mitR a b).2.1, [(mitR a b).1]) else (0, [], [], [])
theorem comp_of {a b : GrD} (h : compB a b = true) : netOkB a = true ∧ netOkB b = true ∧ a.1 = b.1 ∧ a.2.1.length = b.2.1.length ∧ a.2.2.2.length = b.2.2.2.length ∧ a.1 + (a.2.1.length : Int) ≤ 20 ∧ firstG b = firstG a ∧ (grRoots b).length = (grRoots a).length := by
  unfold compB at h
  simp only [Bool.and_eq_true, decide_eq_true_eq] at h
  obtain ⟨⟨⟨⟨⟨⟨h1, h2⟩, h3⟩, h4⟩, h5⟩, h6⟩, h7⟩ := h
  refine ⟨h1, h2, h3, h4, h5, h6, by unfold firstG; omega, ?_⟩
  obtain ⟨-, oa, -, -⟩ := netOk_of h1
  obtain ⟨-, ob, -, -⟩ := netOk_of h2
  have key : ∀ (xs ys : List SeqD), xs.length = ys.length → (∀ s ∈ xs, seqOkB s = true) → (∀ s ∈ ys, seqOkB s = true) → ((xs.zip ys).all fun p => decide (p.1.1 = p.2.1)) = true → ((xs.map (·.2.2)).flatten).length = ((ys.map (·.2.2)).flatten).length := by
    intro xs
    induction xs with
    | nil => intro ys hl _ _ _; cases ys with | nil => rfl | cons => simp at hl
    | cons x xs ih =>
      intro ys hl hx hy hz
      cases ys with
      | nil => simp at hl
      | cons y ys =>
        simp only [List.zip_cons_cons, List.all_cons, Bool.and_eq_true, decide_eq_true_eq] at hz
        have e := ih ys (by simpa using hl) (fun s hs => hx s (by simp [hs])) (fun s hs => hy s (by simp [hs])) hz.2
        have q1 := hx x (by simp)
        have q2 := hy y (by simp)
        have e2 : x.2.2.length = y.2.2.length := by
          unfold seqOkB at q1 q2
          have hk := hz.1
          revert q1 q2
          rw [hk]
          split
          · simp; omega
          · split
            · simp; omega
            · simp
        simp only [List.map_cons, List.flatten_cons, List.length_append, e, e2]
  have := key _ _ h4 oa ob h7
  unfold grRoots
  simp only [List.length_append]
  omega
theorem orV_rng {fa : Int} {an : List AndD} {a b : Int} (hf : 0 ≤ fa) (ha : 0 ≤ a ∧ a < 2 * (fa + an.length)) (hb : 0 ≤ b ∧ b < 2 * (fa + an.length)) : -1 ≤ orV fa an a b ∧ orV fa an a b < 2 * (fa + (addN an (flip a) (flip b)).length) := by
  have fA := flip_half ha.1
  have fB := flip_half hb.1
  have h := addV_rng (fa := fa) (an := an) (a := flip a) (b := flip b) hf (by omega) (by omega)
  have hl := addN_len (an := an) (a := flip a) (b := flip b)
  unfold orV
  split
  · omega
  · have := flip_half (v := addV fa an (flip a) (flip b)) (by omega); omega
theorem xorR_rng {fa : Int} {an : List AndD} {a b : Int} (hf : 0 ≤ fa) (h300 : an.length ≤ 300) (ha : 0 ≤ a ∧ a < 2 * (fa + an.length)) (hb : 0 ≤ b ∧ b < 2 * (fa + an.length)) :
    -1 ≤ (xorR fa an a b).1 ∧ (xorR fa an a b).1 < 2 * (fa + (xorR fa an a b).2.length) ∧ an.length ≤ (xorR fa an a b).2.length ∧ (xorR fa an a b).2.length ≤ 300 := by
  have fA := flip_half ha.1
  have fB := flip_half hb.1
  have l1 := addN_len (an := an) (a := a) (b := flip b)
  have n1 := addN_300 (a := a) (b := flip b) h300
  have r1 := addV_rng (fa := fa) (an := an) (a := a) (b := flip b) hf (by omega) (by omega)
  unfold xorR
  generalize addV fa an a (flip b) = p at *
  generalize addN an a (flip b) = an1 at *
  split
  · exact ⟨by simp, by simp only; omega, by simp only; omega, n1⟩
  · have l2 := addN_len (an := an1) (a := flip a) (b := b)
    have n2 := addN_300 (a := flip a) (b := b) n1
    have r2 := addV_rng (fa := fa) (an := an1) (a := flip a) (b := b) hf (by omega) (by omega)
    generalize addV fa an1 (flip a) b = q at *
    generalize addN an1 (flip a) b = an2 at *
    split
    · exact ⟨by simp, by simp only; omega, by simp only; omega, n2⟩
    · have l3 := addN_len (an := an2) (a := flip p) (b := flip q)
      have n3 := addN_300 (a := flip p) (b := flip q) n2
      have r3 := orV_rng (fa := fa) (an := an2) (a := p) (b := q) hf (by omega) (by omega)
      exact ⟨r3.1, r3.2, by simp only; omega, n3⟩
theorem mitGo_facts {fa : Int} {ra rb : List Int} {an0 : List AndD} (hf : 0 < fa) (h300 : an0.length ≤ 300) (hA : ∀ k ∈ ra, 0 ≤ k ∧ k < 2 * (fa + (an0.length : Int))) (hB : ∀ k ∈ rb, 0 ≤ k ∧ k < 2 * (fa + (an0.length : Int))) {n : Nat} (hn : n ≤ ra.length) (hm : n ≤ rb.length) :
    ∀ i, i ≤ n → (mitGo fa ra rb an0 i).2.2 = true → (0 ≤ (mitGo fa ra rb an0 i).1 ∧ (mitGo fa ra rb an0 i).1 < 2 * (fa + (mitGo fa ra rb an0 i).2.1.length)) ∧ an0.length ≤ (mitGo fa ra rb an0 i).2.1.length ∧ (mitGo fa ra rb an0 i).2.1.length ≤ 300
  | 0, _, _ => ⟨⟨by simp [mitGo], by simp [mitGo]; omega⟩, Nat.le_refl _, h300⟩
  | i + 1, hi, h => by
    have ih := mitGo_facts hf h300 hA hB hn hm i (by omega)
    obtain ⟨⟨s, an, b⟩, hst⟩ : ∃ q, mitGo fa ra rb an0 i = q := ⟨_, rfl⟩
    cases b with
    | false =>
      have := mitGo_false (show (mitGo fa ra rb an0 i).2.2 = false by rw [hst]) 1
      rw [this] at h; cases h
    | true =>
      rw [hst] at ih
      obtain ⟨g1, g2, g3⟩ := ih rfl
      simp only at g1 g2 g3
      have hx1 : ra.getD i 0 ∈ ra := by rw [List.getD_eq_getElem?_getD, List.getElem?_eq_getElem (by omega)]; exact List.getElem_mem _
      have hx2 : rb.getD i 0 ∈ rb := by rw [List.getD_eq_getElem?_getD, List.getElem?_eq_getElem (by omega)]; exact List.getElem_mem _
      have b1 := hA _ hx1
      have b2 := hB _ hx2
      rw [mitGo_step hst] at h ⊢
      have xr := xorR_rng (fa := fa) (an := an) (a := ra.getD i 0) (b := rb.getD i 0) (by omega) g3 (by omega) (by omega)
      generalize xorR fa an (ra.getD i 0) (rb.getD i 0) = X at *
      obtain ⟨x1, x2, x3, x4⟩ := xr
      split at h
      · simp at h
      · rename_i hx
        rw [if_neg hx]
        have ho := orV_rng (fa := fa) (an := X.2) (a := s) (b := X.1) (by omega) (by omega) (by omega)
        have l3 := addN_len (an := X.2) (a := flip s) (b := flip X.1)
        have n3 := addN_300 (a := flip s) (b := flip X.1) x4
        split at h
        · simp at h
        · rename_i hy
          rw [if_neg hy]
          exact ⟨⟨by simp only; omega, ho.2⟩, by simp only; omega, n3⟩
end Go.Proofs.Ytklhofpjjbfckaa
namespace Go.Proofs.Ytklhofpjjbfckaa
set_option linter.unusedVariables false
set_option linter.unusedSimpArgs false
theorem seqOk_rng {s : SeqD} (h : seqOkB s = true) : isI s.1 ∧ isI s.2.1 ∧ s.2.2.length ≤ 4 := by
  have hl := seqOk_len h
  unfold seqOkB at h
  unfold isI
  split at h
  · rename_i h1
    simp only [Bool.and_eq_true] at h
    have := rng_iff.1 h.1
    exact ⟨by omega, by omega, hl⟩
  · split at h
    · rename_i h1
      simp only [Bool.and_eq_true] at h
      have := rng_iff.1 h.1
      exact ⟨by omega, by omega, hl⟩
    · cases h
theorem okGr_netOk {x : GrD} (hok : netOkB x = true) : okGr x := by
  obtain ⟨⟨n1, n2, n3, n4, n5, n6⟩, o1, o2, o3⟩ := netOk_of hok
  obtain ⟨hF, hgl, hNi, hno⟩ := ok_sizes hok
  have hN := grN_eq x
  refine ⟨fun y hy => ?_, fun s hs => ⟨(seqOk_rng (o1 s hs)).1, (seqOk_rng (o1 s hs)).2.1, fun y hy => ?_⟩, fun a ha => ?_, by unfold isI; omega⟩
  · have := o2 y (outs_root hy); unfold isI; omega
  · have := o2 y (List.mem_append_right _ (List.mem_flatten.2 ⟨_, List.mem_map.2 ⟨s, hs, rfl⟩, hy⟩)); unfold isI; omega
  · obtain ⟨i, hi, rfl⟩ := List.mem_iff_getElem.1 ha
    obtain ⟨e, a1, a2, a3, a4, a5, a6⟩ := and_at hok (v := firstG x + i) (by omega) (by omega)
    rw [Nat.add_sub_cancel_left, List.getElem?_eq_getElem hi] at e
    rw [Option.some.inj e]
    unfold isI; omega
theorem fitGr_netOk {x : GrD} (hok : netOkB x = true) : fitGr 1048576 x := by
  obtain ⟨⟨n1, n2, n3, n4, n5, n6⟩, o1, o2, o3⟩ := netOk_of hok
  exact ⟨by omega, fun s hs => by have := seqOk_len (o1 s hs); omega, by omega, by omega⟩
def withA (x : GrD) (an : List AndD) : GrD := (x.1, x.2.1, an, x.2.2.2)
theorem withA_self {x : GrD} : withA x x.2.2.1 = x := rfl
theorem ansOk_of {x : GrD} (hok : netOkB x = true) : ansOk (firstG x) x.2.2.1 := by
  obtain ⟨hF, hgl, hNi, hno⟩ := ok_sizes hok
  unfold netOkB at hok
  simp only [Bool.and_eq_true] at hok
  unfold ansOk
  rw [hF]
  exact hok.2
theorem netOk_withA {x : GrD} (hok : netOkB x = true) {an : List AndD} (hl : x.2.2.1.length ≤ an.length) (h3 : an.length ≤ 300) (ha : ansOk (firstG x) an) : netOkB (withA x an) = true := by
  obtain ⟨⟨n1, n2, n3, n4, n5, n6⟩, o1, o2, o3⟩ := netOk_of hok
  obtain ⟨hF, hgl, hNi, hno⟩ := ok_sizes hok
  have hN := grN_eq x
  have hn : nodesG (withA x an) = 1 + x.1 + x.2.1.length + an.length := by
    unfold nodesG withA
    rw [if_pos ⟨rng_iff.2 ⟨n1, n2⟩, n3, h3, n5⟩]
  have hr : grRoots (withA x an) = grRoots x := rfl
  unfold netOkB
  rw [hn, hr]
  simp only [Bool.and_eq_true, decide_eq_true_eq]
  refine ⟨⟨⟨by omega, ?_⟩, ?_⟩, ?_⟩
  · rw [List.all_eq_true]; exact o1
  · unfold belowB
    rw [List.all_eq_true]
    intro y hy
    have := o2 y hy
    exact rng_iff.2 (by omega)
  · show andsFit (1 + x.1 + (x.2.1.length : Int)) 0 an = true
    rw [← hF]; exact ha
theorem netOk_addN {x : GrD} (hok : netOkB x = true) {a b : Int} (ha : 0 ≤ a ∧ a < 2 * (grN x : Int)) (hb : 0 ≤ b ∧ b < 2 * (grN x : Int)) : netOkB (withA x (addN x.2.2.1 a b)) = true := by
  obtain ⟨⟨n1, n2, n3, n4, n5, n6⟩, o1, o2, o3⟩ := netOk_of hok
  have hN := grN_eq x
  exact netOk_withA hok addN_len.1 (addN_300 n4) (ansOk_add (ansOk_of hok) (by omega) (by omega))
/-- Adding a conjunction. -/
def sAddL (x : GrD) (a b : Int) : GrD × Int :=
  if rng a 0 (2 * (grN x : Int) - 1) = true ∧ rng b 0 (2 * (grN x : Int) - 1) = true then (withA x (addN x.2.2.1 a b), addV (firstG x) x.2.2.1 a b) else (x, -1)
def notV (v : Int) : Int := if v < 0 then -2 else flip v
def sOrL (x : GrD) (a b : Int) : GrD × Int := if (sAddL x (notV a) (notV b)).2 < 0 then (x, -1) else ((sAddL x (notV a) (notV b)).1, flip (sAddL x (notV a) (notV b)).2)
def sJoinL (x m : GrD) (p q : Int) : GrD × Int := if (sOrL m p q).2 < 0 then (x, -1) else sOrL m p q
def sXorL (x : GrD) (a b : Int) : GrD × Int := sJoinL x (sAddL (sAddL x a (notV b)).1 (notV a) b).1 (sAddL x a (notV b)).2 (sAddL (sAddL x a (notV b)).1 (notV a) b).2
theorem sAddL_ok {x : GrD} {a b : Int} (ha : 0 ≤ a ∧ a < 2 * (grN x : Int)) (hb : 0 ≤ b ∧ b < 2 * (grN x : Int)) : sAddL x a b = (withA x (addN x.2.2.1 a b), addV (firstG x) x.2.2.1 a b) := by
  unfold sAddL; rw [if_pos ⟨rng_iff.2 (by omega), rng_iff.2 (by omega)⟩]
theorem sAddL_bad {x : GrD} {a b : Int} (h : a < 0 ∨ b < 0) : sAddL x a b = (x, -1) := by
  unfold sAddL; rw [if_neg (fun h2 => by have h3 := rng_iff.1 h2.1; have h4 := rng_iff.1 h2.2; omega)]
theorem sOrL_ok {x : GrD} {a b : Int} (ha : 0 ≤ a ∧ a < 2 * (grN x : Int)) (hb : 0 ≤ b ∧ b < 2 * (grN x : Int)) :
    sOrL x a b = if orV (firstG x) x.2.2.1 a b < 0 then (x, -1) else (withA x (addN x.2.2.1 (flip a) (flip b)), orV (firstG x) x.2.2.1 a b) := by
  have fA := flip_half ha.1
  have fB := flip_half hb.1
  unfold sOrL notV
  rw [if_neg (show ¬ a < 0 by omega), if_neg (show ¬ b < 0 by omega), sAddL_ok (by omega) (by omega)]
  unfold orV
  simp only
  by_cases h : addV (firstG x) x.2.2.1 (flip a) (flip b) < 0
  · rw [if_pos h, if_pos h, if_pos (by omega)]
  · have hp := flip_half (v := addV (firstG x) x.2.2.1 (flip a) (flip b)) (by omega)
    rw [if_neg h, if_neg h, if_neg (by omega)]
theorem sOrL_bad {x : GrD} {a b : Int} (h : a < 0 ∨ b < 0) : sOrL x a b = (x, -1) := by
  unfold sOrL
  rw [sAddL_bad (by unfold notV; rcases h with h | h <;> simp [h])]
  simp
theorem grN_withA {x : GrD} {an : List AndD} : grN (withA x an) = firstG x + an.length := rfl
theorem sXorL_eq {x : GrD} {a b : Int} (h3 : x.2.2.1.length ≤ 300) (ha : 0 ≤ a ∧ a < 2 * (grN x : Int)) (hb : 0 ≤ b ∧ b < 2 * (grN x : Int)) :
    sXorL x a b = if (xorR (firstG x) x.2.2.1 a b).1 < 0 then (x, -1) else (withA x (xorR (firstG x) x.2.2.1 a b).2, (xorR (firstG x) x.2.2.1 a b).1) := by
  have hN := grN_eq x
  have fA := flip_half ha.1
  have fB := flip_half hb.1
  have l1 := addN_len (an := x.2.2.1) (a := a) (b := flip b)
  have n1 := addN_300 (a := a) (b := flip b) h3
  have r1 := addV_rng (fa := firstG x) (an := x.2.2.1) (a := a) (b := flip b) (by omega) (by omega) (by omega)
  have g1 := addV_neg (fa := firstG x) (an := x.2.2.1) (a := a) (b := flip b) (by omega) (by omega) (by omega)
  have nA : notV a = flip a := by unfold notV; rw [if_neg (by omega)]
  have nB : notV b = flip b := by unfold notV; rw [if_neg (by omega)]
  unfold sXorL sJoinL
  rw [nA, nB, sAddL_ok (x := x) (a := a) (b := flip b) (by omega) (by omega)]
  unfold xorR
  generalize addV (firstG x) x.2.2.1 a (flip b) = p at *
  generalize addN x.2.2.1 a (flip b) = an1 at *
  simp only
  rw [sAddL_ok (x := withA x an1) (by rw [grN_withA]; omega) (by rw [grN_withA]; omega)]
  simp only
  have ew : ∀ an2 : List AndD, withA (withA x an1) an2 = withA x an2 := fun _ => rfl
  have ef : firstG (withA x an1) = firstG x := rfl
  have ea : (withA x an1).2.2.1 = an1 := rfl
  rw [ew, ef, ea]
  have l2 := addN_len (an := an1) (a := flip a) (b := b)
  have n2 := addN_300 (a := flip a) (b := b) n1
  have r2 := addV_rng (fa := firstG x) (an := an1) (a := flip a) (b := b) (by omega) (by omega) (by omega)
  generalize addV (firstG x) an1 (flip a) b = q at *
  generalize addN an1 (flip a) b = an2 at *
  by_cases hp : p < 0
  · rw [if_pos hp, sOrL_bad (.inl hp)]; rfl
  rw [if_neg hp]
  by_cases hq : q < 0
  · rw [if_pos hq, sOrL_bad (.inr hq)]
  rw [if_neg hq, sOrL_ok (x := withA x an2) (by rw [grN_withA]; omega) (by rw [grN_withA]; omega)]
  have ef2 : firstG (withA x an2) = firstG x := rfl
  have ea2 : (withA x an2).2.2.1 = an2 := rfl
  have ew2 : ∀ an3 : List AndD, withA (withA x an2) an3 = withA x an3 := fun _ => rfl
  rw [ef2, ea2, ew2]
  simp only
  split
  · simp
  · rename_i h; simp only [h, if_false]
end Go.Proofs.Ytklhofpjjbfckaa
