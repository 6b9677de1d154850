/-
  What can be observed in a net: what its outputs reach through AND nodes and sequential elements; by a search with a list of what is left to do, and by rounds of marks. Plain lemmas, about no function of the program.
  Conditions: those typed in each theorem.
-/
import Derived.Test.YtoppcdccplgalaaNo
namespace Go.Proofs.Ytoppcdccplgalaa
set_option linter.unusedVariables false

def litN (l : Int) : Nat := l.toNat / 2
def seqAt (x : GrD) (i : Nat) : SeqD := (x.2.1[i]?).getD (0, 0, [])
/-- The number of the first sequential element. -/
def firstQ (x : GrD) : Nat := 1 + x.1.toNat
/-- The nodes that a node needs. -/
def kidsO (x : GrD) (v : Nat) : List Nat := if firstG x ≤ v then [kidA x v, kidB x v] else if firstQ x ≤ v then (seqAt x (v - firstQ x)).2.2.map litN else []
inductive Obs (x : GrD) : Nat → Prop
  | out {l : Int} (h : l ∈ x.2.2.2) : Obs x (litN l)
  | kid {v u : Nat} (hv : Obs x v) (hu : u ∈ kidsO x v) : Obs x u
open Classical in
noncomputable def obsB (x : GrD) : List Bool := (List.range (grN x)).map fun u => decide (Obs x u)
theorem obsB_len {x : GrD} : (obsB x).length = grN x := by simp [obsB]
open Classical in
theorem obs_eq {x : GrD} {s : List Bool} (hl : s.length = grN x) (h : ∀ u, getB s u = true ↔ Obs x u) : s = obsB x := by
  refine getB_ext (by rw [hl, obsB_len]) fun u => ?_
  by_cases hu : u < grN x
  · have e : getB (obsB x) u = decide (Obs x u) := by simp [getB, obsB, hu]
    rw [e]
    exact Bool.eq_iff_iff.2 (by rw [h u, decide_eq_true_eq])
  · have h1 : getB s u = false := by simp [getB, List.getElem?_eq_none (show s.length ≤ u by omega)]
    have h2 : getB (obsB x) u = false := by simp [getB, List.getElem?_eq_none (show (obsB x).length ≤ u by rw [obsB_len]; omega)]
    rw [h1, h2]
theorem root_lt {x : GrD} (hok : netOkB x = true) {l : Int} (h : l ∈ grRoots x) : 0 ≤ l ∧ litN l < grN x := by
  obtain ⟨-, -, o2, -⟩ := netOk_of hok
  have := o2 l h
  unfold litN
  omega
theorem outs_root {x : GrD} {l : Int} (h : l ∈ x.2.2.2) : l ∈ grRoots x := List.mem_append_left _ h
theorem seqAt_mem {x : GrD} {i : Nat} (h : i < x.2.1.length) : x.2.1[i]? = some (seqAt x i) ∧ seqAt x i ∈ x.2.1 := by
  have e : x.2.1[i]? = some (seqAt x i) := by unfold seqAt; rw [List.getElem?_eq_getElem h]; rfl
  exact ⟨e, List.mem_of_getElem? e⟩
theorem seq_root {x : GrD} {i : Nat} (h : i < x.2.1.length) {l : Int} (hl : l ∈ (seqAt x i).2.2) : l ∈ grRoots x := by
  refine List.mem_append_right _ ?_
  exact List.mem_flatten.2 ⟨_, List.mem_map.2 ⟨_, (seqAt_mem h).2, rfl⟩, hl⟩
theorem firstG_eq {x : GrD} : firstG x = firstQ x + x.2.1.length := rfl
theorem kids_in {x : GrD} (hok : netOkB x = true) {v u : Nat} (hv : v < grN x) (hu : u ∈ kidsO x v) : u < grN x := by
  unfold kidsO at hu
  split at hu
  · rename_i h
    obtain ⟨a, b⟩ := kids_lt hok v h hv
    simp only [List.mem_cons, List.not_mem_nil, or_false] at hu
    rcases hu with rfl | rfl <;> omega
  · split at hu
    · rename_i h1 h2
      obtain ⟨l, hl, rfl⟩ := List.mem_map.1 hu
      have := firstG_eq (x := x)
      exact (root_lt hok (seq_root (by omega) hl)).2
    · simp at hu
theorem obs_lt {x : GrD} (hok : netOkB x = true) {u : Nat} (h : Obs x u) : u < grN x := by
  induction h with
  | out h => exact (root_lt hok (outs_root h)).2
  | kid hv hu ih => exact kids_in hok ih hu
theorem obs_rch {x : GrD} {v u : Nat} (h : Rch (firstG x) (kidA x) (kidB x) v u) (hv : Obs x v) : Obs x u := by
  induction h with
  | refl v => exact hv
  | a h r ih => exact ih (.kid hv (by unfold kidsO; rw [if_pos h]; simp))
  | b h r ih => exact ih (.kid hv (by unfold kidsO; rw [if_pos h]; simp))

/-! ### A search with a list of what is left to do -/
def visO (s : List Bool × List Nat) (v : Nat) : List Bool × List Nat := if getB s.1 v = true then s else (s.1.set v true, s.2 ++ [v])
def cntO (s : List Bool) : Nat := s.count false
theorem cntO_set : ∀ {s : List Bool} {v : Nat}, v < s.length → getB s v = false → cntO (s.set v true) + 1 = cntO s
  | b :: s, 0, _, h => by
    have : b = false := by simpa [getB] using h
    subst this
    simp [cntO]
  | b :: s, v + 1, hv, h => by
    have ih := cntO_set (s := s) (v := v) (by simpa using hv) (by simpa [getB] using h)
    simp only [cntO, List.set_cons_succ, List.count_cons] at ih ⊢
    omega
/-- What holds between two steps; N: the number of nodes. -/
structure InvO (x : GrD) (s : List Bool × List Nat) : Prop where
  len : s.1.length = grN x
  obs : ∀ u, getB s.1 u = true → Obs x u
  lt : ∀ u ∈ s.2, u < grN x
  seen : ∀ u ∈ s.2, getB s.1 u = true
  small : 2 * cntO s.1 + s.2.length ≤ 2 * grN x
/-- The nodes that are marked and done have their kids marked. -/
def DoneO (x : GrD) (s : List Bool × List Nat) : Prop := ∀ u, getB s.1 u = true → u ∉ s.2 → ∀ k ∈ kidsO x u, getB s.1 k = true
theorem getB_lt {s : List Bool} {u : Nat} (h : getB s u = true) : u < s.length := by
  unfold getB at h
  cases e : s[u]? with
  | none => rw [e] at h; cases h
  | some b => exact (List.getElem?_eq_some_iff.1 e).1
theorem visO_facts {x : GrD} {s : List Bool × List Nat} {v : Nat} (h : InvO x s) (hv : Obs x v) (hl : v < grN x) :
    InvO x (visO s v) ∧ getB (visO s v).1 v = true ∧ (∀ u, getB s.1 u = true → getB (visO s v).1 u = true) ∧ (∀ u, getB (visO s v).1 u = true → getB s.1 u = true ∨ u ∈ (visO s v).2) ∧ (∀ u ∈ s.2, u ∈ (visO s v).2) ∧
      2 * cntO (visO s v).1 + (visO s v).2.length ≤ 2 * cntO s.1 + s.2.length := by
  unfold visO
  split
  · rename_i hs
    exact ⟨h, hs, fun u h => h, fun u h => .inl h, fun u h => h, Nat.le_refl _⟩
  · rename_i hs
    have hs' : getB s.1 v = false := by simpa using hs
    have hg : ∀ u, (getB (s.1.set v true) u = true ↔ u = v ∨ getB s.1 u = true) := fun u => by rw [getB_set (by rw [h.len]; exact hl)]; simp
    have hc := cntO_set (s := s.1) (v := v) (by rw [h.len]; exact hl) hs'
    have hsm := h.small
    refine ⟨⟨by simp [h.len], fun u hu => ?_, fun u hu => ?_, fun u hu => ?_, by simp; omega⟩, (hg v).2 (.inl rfl), fun u hu => (hg u).2 (.inr hu), fun u hu => ?_, fun u hu => by simp [hu], by simp; omega⟩
    · rcases (hg u).1 hu with rfl | hu
      · exact hv
      · exact h.obs u hu
    · simp only [List.mem_append, List.mem_singleton] at hu
      rcases hu with hu | rfl
      · exact h.lt u hu
      · exact hl
    · simp only [List.mem_append, List.mem_singleton] at hu
      rcases hu with hu | rfl
      · exact (hg u).2 (.inr (h.seen u hu))
      · exact (hg u).2 (.inl rfl)
    · rcases (hg u).1 hu with rfl | hu
      · exact .inr (by simp)
      · exact .inl hu
/-- Several visits, one by one. -/
theorem visO_all {x : GrD} : ∀ (vs : List Nat) {s : List Bool × List Nat}, InvO x s → (∀ v ∈ vs, Obs x v ∧ v < grN x) →
    InvO x (vs.foldl visO s) ∧ (∀ v ∈ vs, getB (vs.foldl visO s).1 v = true) ∧ (∀ u, getB s.1 u = true → getB (vs.foldl visO s).1 u = true) ∧ (∀ u, getB (vs.foldl visO s).1 u = true → getB s.1 u = true ∨ u ∈ (vs.foldl visO s).2) ∧ (∀ u ∈ s.2, u ∈ (vs.foldl visO s).2) ∧
      2 * cntO (vs.foldl visO s).1 + (vs.foldl visO s).2.length ≤ 2 * cntO s.1 + s.2.length
  | [], s, h, _ => ⟨h, by simp, fun u h => h, fun u h => .inl h, fun u h => h, Nat.le_refl _⟩
  | v :: vs, s, h, hv => by
    obtain ⟨a1, a2, a3, a4, a5, a6⟩ := visO_facts h (hv v (by simp)).1 (hv v (by simp)).2
    obtain ⟨b1, b2, b3, b4, b5, b6⟩ := visO_all vs a1 fun u hu => hv u (by simp [hu])
    refine ⟨b1, fun u hu => ?_, fun u hu => b3 u (a3 u hu), fun u hu => ?_, fun u hu => b5 u (a5 u hu), Nat.le_trans b6 a6⟩
    · rcases List.mem_cons.1 hu with rfl | hu
      · exact b3 _ a2
      · exact b2 u hu
    · rcases b4 u hu with h | h
      · rcases a4 u h with h | h
        · exact .inl h
        · exact .inr (b5 u h)
      · exact .inr h
theorem popO {x : GrD} {s : List Bool} {t : List Nat} {v : Nat} (h : InvO x (s, t ++ [v])) : InvO x (s, t) ∧ Obs x v ∧ v < grN x ∧ getB s v = true ∧ 2 * cntO s + t.length + 1 ≤ 2 * grN x := by
  have h1 := h.seen v (by simp)
  have h2 := h.small
  simp only [List.length_append, List.length_cons, List.length_nil] at h2
  exact ⟨⟨h.len, h.obs, fun u hu => h.lt u (by simp [hu]), fun u hu => h.seen u (by simp [hu]), by simp only; omega⟩, h.obs v h1, h.lt v (by simp), h1, by omega⟩
/-- A step: a node is taken, its kids are visited. -/
theorem stepO {x : GrD} (hok : netOkB x = true) {s : List Bool} {t : List Nat} {v : Nat} (h : InvO x (s, t ++ [v])) (hd : DoneO x (s, t ++ [v])) :
    InvO x ((kidsO x v).foldl visO (s, t)) ∧ DoneO x ((kidsO x v).foldl visO (s, t)) ∧ (∀ u, getB s u = true → getB ((kidsO x v).foldl visO (s, t)).1 u = true) ∧
      2 * cntO ((kidsO x v).foldl visO (s, t)).1 + ((kidsO x v).foldl visO (s, t)).2.length < 2 * cntO s + (t ++ [v]).length := by
  obtain ⟨h1, h2, h3, h4, h5⟩ := popO h
  obtain ⟨b1, b2, b3, b4, b5, b6⟩ := visO_all (kidsO x v) h1 fun u hu => ⟨.kid h2 hu, kids_in hok h3 hu⟩
  refine ⟨b1, fun u hu hn k hk => ?_, b3, by simp only [List.length_append, List.length_cons, List.length_nil] at b6 ⊢; omega⟩
  by_cases huv : u = v
  · subst huv
    exact b2 k hk
  · rcases b4 u hu with h | h
    · exact b3 k (hd u h (fun hm => by
        rcases List.mem_append.1 hm with hm | hm
        · exact hn (b5 u hm)
        · exact huv (List.mem_singleton.1 hm)) k hk)
    · exact absurd h hn
theorem startO {x : GrD} (hok : netOkB x = true) : InvO x (x.2.2.2.map litN |>.foldl visO (List.replicate (grN x) false, [])) ∧ DoneO x (x.2.2.2.map litN |>.foldl visO (List.replicate (grN x) false, [])) ∧ ∀ l ∈ x.2.2.2, getB (x.2.2.2.map litN |>.foldl visO (List.replicate (grN x) false, [])).1 (litN l) = true := by
  have h0 : InvO x (List.replicate (grN x) false, []) := ⟨by simp, fun u h => (by rw [getB_rep] at h; cases h), by simp, by simp, by simp [cntO]⟩
  obtain ⟨b1, b2, b3, b4, b5, b6⟩ := visO_all (x.2.2.2.map litN) h0 fun u hu => by
    obtain ⟨l, hl, rfl⟩ := List.mem_map.1 hu
    exact ⟨.out hl, (root_lt hok (outs_root hl)).2⟩
  refine ⟨b1, fun u hu hn => ?_, fun l hl => b2 _ (List.mem_map.2 ⟨l, hl, rfl⟩)⟩
  rcases b4 u hu with h | h
  · rw [getB_rep] at h; cases h
  · exact absurd h hn
theorem endO {x : GrD} {s : List Bool} (h : InvO x (s, [])) (hd : DoneO x (s, [])) (ho : ∀ l ∈ x.2.2.2, getB s (litN l) = true) : s = obsB x := by
  refine obs_eq h.len fun u => ⟨h.obs u, fun hu => ?_⟩
  induction hu with
  | out h => exact ho _ h
  | kid hv hu ih => exact hd _ ih (by simp) _ hu

/-! ### Rounds of marks -/
def setN (s : List Bool) (v : Nat) : List Bool := s.set v true
def msK (x : GrD) (m : List Bool) : Nat → List Bool
  | 0 => m
  | i + 1 => if getB (msK x m i) (firstQ x + i) = true then ((seqAt x i).2.2.map litN).foldl setN (msK x m i) else msK x m i
def rdK (x : GrD) (m : List Bool) : Nat → List Bool
  | 0 => m
  | r + 1 => msK x (sweepG x (rdK x m r)) x.2.1.length
def outM (x : GrD) : List Bool := (x.2.2.2.map litN).foldl setN (List.replicate (grN x) false)
theorem setN_all : ∀ (vs : List Nat) {s : List Bool}, (∀ v ∈ vs, v < s.length) → (vs.foldl setN s).length = s.length ∧ ∀ u, (getB (vs.foldl setN s) u = true ↔ getB s u = true ∨ u ∈ vs)
  | [], s, _ => ⟨rfl, fun u => by simp⟩
  | v :: vs, s, h => by
    have hv := h v (by simp)
    obtain ⟨a, b⟩ := setN_all vs (s := setN s v) (fun u hu => by simpa [setN] using h u (by simp [hu]))
    refine ⟨by simpa [setN] using a, fun u => ?_⟩
    simp only [List.foldl_cons]
    rw [b u, setN, getB_set hv]
    simp only [Bool.or_eq_true, decide_eq_true_eq, List.mem_cons]
    constructor
    · rintro ((h | h) | h)
      · exact .inr (.inl h)
      · exact .inl h
      · exact .inr (.inr h)
    · rintro (h | h | h)
      · exact .inl (.inr h)
      · exact .inl (.inl h)
      · exact .inr h
theorem seqKid {x : GrD} {i : Nat} (h : i < x.2.1.length) : kidsO x (firstQ x + i) = (seqAt x i).2.2.map litN := by
  unfold kidsO
  rw [if_neg (by have := firstG_eq (x := x); omega), if_pos (by omega), Nat.add_sub_cancel_left]
theorem msK_facts {x : GrD} (hok : netOkB x = true) {m : List Bool} (hl : m.length = grN x) (ho : ∀ u, getB m u = true → Obs x u) : ∀ i, i ≤ x.2.1.length →
    (msK x m i).length = grN x ∧ (∀ u, getB (msK x m i) u = true → Obs x u) ∧ (∀ u, getB m u = true → getB (msK x m i) u = true) ∧ ∀ j, j < i → getB m (firstQ x + j) = true → ∀ k ∈ kidsO x (firstQ x + j), getB (msK x m i) k = true
  | 0, _ => ⟨hl, ho, fun u h => h, fun j h => by omega⟩
  | i + 1, hi => by
    obtain ⟨a, b, c, d⟩ := msK_facts hok hl ho i (by omega)
    have hk := seqKid (x := x) (i := i) (by omega)
    unfold msK
    split
    · rename_i hs
      have hob := b _ hs
      obtain ⟨e, f⟩ := setN_all ((seqAt x i).2.2.map litN) (s := msK x m i) (fun v hv => by rw [a]; exact kids_in hok (obs_lt hok hob) (hk ▸ hv))
      refine ⟨by rw [e, a], fun u hu => ?_, fun u hu => (f u).2 (.inl (c u hu)), fun j hj hm k hkk => ?_⟩
      · rcases (f u).1 hu with h | h
        · exact b u h
        · exact .kid hob (hk ▸ h)
      · by_cases hji : j = i
        · subst hji
          exact (f k).2 (.inr (hk ▸ hkk))
        · exact (f k).2 (.inl (d j (by omega) hm k hkk))
    · rename_i hs
      refine ⟨a, b, c, fun j hj hm k hkk => ?_⟩
      by_cases hji : j = i
      · subst hji
        exact absurd (c _ hm) hs
      · exact d j (by omega) hm k hkk
theorem sweepG_len {x : GrD} {m : List Bool} : (sweepG x m).length = m.length := swK_len _
theorem sweepG_facts {x : GrD} (hok : netOkB x = true) {m : List Bool} (hl : m.length = grN x) (ho : ∀ u, getB m u = true → Obs x u) :
    (∀ u, getB (sweepG x m) u = true → Obs x u) ∧ (∀ u, getB m u = true → getB (sweepG x m) u = true) ∧ ∀ u, getB (sweepG x m) u = true → firstG x ≤ u → ∀ k ∈ kidsO x u, getB (sweepG x m) k = true := by
  have h := sweep_iff hok hl
  refine ⟨fun u hu => ?_, fun u hu => (h u).2 ⟨u, hu, .refl u⟩, fun u hu hF k hk => ?_⟩
  · obtain ⟨r, hr, hru⟩ := (h u).1 hu
    exact obs_rch hru (ho r hr)
  · obtain ⟨r, hr, hru⟩ := (h u).1 hu
    unfold kidsO at hk
    rw [if_pos hF] at hk
    simp only [List.mem_cons, List.not_mem_nil, or_false] at hk
    rcases hk with rfl | rfl
    · exact (h _).2 ⟨r, hr, hru.snoc_a hF⟩
    · exact (h _).2 ⟨r, hr, hru.snoc_b hF⟩
theorem outM_facts {x : GrD} (hok : netOkB x = true) : (outM x).length = grN x ∧ (∀ u, getB (outM x) u = true → Obs x u) ∧ ∀ l ∈ x.2.2.2, getB (outM x) (litN l) = true := by
  obtain ⟨a, b⟩ := setN_all (x.2.2.2.map litN) (s := List.replicate (grN x) false) (fun v hv => by
    obtain ⟨l, hl, rfl⟩ := List.mem_map.1 hv
    simpa using (root_lt hok (outs_root hl)).2)
  refine ⟨by unfold outM; rw [a]; simp, fun u hu => ?_, fun l hl => (b _).2 (.inr (List.mem_map.2 ⟨l, hl, rfl⟩))⟩
  rcases (b u).1 hu with h | h
  · rw [getB_rep] at h; cases h
  · obtain ⟨l, hl, rfl⟩ := List.mem_map.1 h
    exact .out hl
theorem rdK_facts {x : GrD} (hok : netOkB x = true) : ∀ r, (rdK x (outM x) r).length = grN x ∧ (∀ u, getB (rdK x (outM x) r) u = true → Obs x u) ∧ ∀ l ∈ x.2.2.2, getB (rdK x (outM x) r) (litN l) = true
  | 0 => outM_facts hok
  | r + 1 => by
    obtain ⟨a, b, c⟩ := rdK_facts hok r
    obtain ⟨s1, s2, s3⟩ := sweepG_facts hok a b
    obtain ⟨e, f, g, h⟩ := msK_facts hok (m := sweepG x (rdK x (outM x) r)) (by rw [sweepG_len, a]) s1 x.2.1.length (Nat.le_refl _)
    exact ⟨e, f, fun l hl => g _ (s2 _ (c l hl))⟩
theorem rdK_step {x : GrD} (hok : netOkB x = true) (r : Nat) : (∀ u, getB (sweepG x (rdK x (outM x) r)) u = true → getB (sweepG x (rdK x (outM x) (r + 1))) u = true) ∧
    ∀ j, j < x.2.1.length → getB (sweepG x (rdK x (outM x) r)) (firstQ x + j) = true → ∀ k ∈ kidsO x (firstQ x + j), getB (sweepG x (rdK x (outM x) (r + 1))) k = true := by
  obtain ⟨a, b, c⟩ := rdK_facts hok r
  obtain ⟨a', b', c'⟩ := rdK_facts hok (r + 1)
  obtain ⟨s1, s2, s3⟩ := sweepG_facts hok a b
  obtain ⟨t1, t2, t3⟩ := sweepG_facts hok a' b'
  obtain ⟨e, f, g, h⟩ := msK_facts hok (m := sweepG x (rdK x (outM x) r)) (by rw [sweepG_len, a]) s1 x.2.1.length (Nat.le_refl _)
  exact ⟨fun u hu => t2 u (g u hu), fun j hj hm k hk => t2 k (h j hj hm k hk)⟩
theorem countP_lt {p q : Nat → Bool} : ∀ (l : List Nat), (∀ i ∈ l, p i = true → q i = true) → (∃ i ∈ l, q i = true ∧ p i = false) → l.countP p < l.countP q
  | [], _, h => by obtain ⟨i, hi, _⟩ := h; simp at hi
  | a :: l, hm, h => by
    have hle : l.countP p ≤ l.countP q := List.countP_mono_left fun i hi hp => hm i (by simp [hi]) hp
    obtain ⟨i, hi, hq, hp⟩ := h
    rw [List.countP_cons, List.countP_cons]
    rcases List.mem_cons.1 hi with rfl | hi
    · rw [hq, hp]; simp; omega
    · have ih := countP_lt l (fun i hi => hm i (by simp [hi])) ⟨i, hi, hq, hp⟩
      have := hm a (by simp)
      cases hpa : p a with
      | false => cases q a <;> simp <;> omega
      | true => rw [this hpa]; simp; omega
def cntS (x : GrD) (r : Nat) : Nat := (List.range x.2.1.length).countP fun i => getB (sweepG x (rdK x (outM x) r)) (firstQ x + i)
theorem cntS_le {x : GrD} {r : Nat} : cntS x r ≤ x.2.1.length := by
  have := List.countP_le_length (p := fun i => getB (sweepG x (rdK x (outM x) r)) (firstQ x + i)) (l := List.range x.2.1.length)
  simpa [cntS] using this
theorem some_still {x : GrD} (hok : netOkB x = true) : ∃ r, r ≤ x.2.1.length ∧ ∀ i, i < x.2.1.length → getB (sweepG x (rdK x (outM x) (r + 1))) (firstQ x + i) = true → getB (sweepG x (rdK x (outM x) r)) (firstQ x + i) = true := by
  by_cases h : ∃ r, r ≤ x.2.1.length ∧ ∀ i, i < x.2.1.length → getB (sweepG x (rdK x (outM x) (r + 1))) (firstQ x + i) = true → getB (sweepG x (rdK x (outM x) r)) (firstQ x + i) = true
  · exact h
  have hs : ∀ r, r ≤ x.2.1.length → cntS x r < cntS x (r + 1) := fun r hr => by
    refine countP_lt _ (fun i hi hp => (rdK_step hok r).1 _ hp) ?_
    obtain ⟨i, h1⟩ := Classical.not_forall.1 fun hc => h ⟨r, hr, hc⟩
    obtain ⟨hi, h2⟩ := Classical.not_imp.1 h1
    obtain ⟨hq, hp⟩ := Classical.not_imp.1 h2
    exact ⟨i, List.mem_range.2 hi, hq, by simpa using hp⟩
  have hc : ∀ r, r ≤ x.2.1.length + 1 → r ≤ cntS x r := by
    intro r
    induction r with
    | zero => intro _; exact Nat.zero_le _
    | succ r ih => intro hr; have := ih (by omega); have := hs r (by omega); omega
  have := hc (x.2.1.length + 1) (Nat.le_refl _)
  have := cntS_le (x := x) (r := x.2.1.length + 1)
  omega
/-- After a round more than there are sequential elements, just what can be observed is marked. -/
theorem rounds_obs {x : GrD} (hok : netOkB x = true) : sweepG x (rdK x (outM x) (x.2.1.length + 1)) = obsB x := by
  obtain ⟨a, b, c⟩ := rdK_facts hok (x.2.1.length + 1)
  obtain ⟨s1, s2, s3⟩ := sweepG_facts hok a b
  obtain ⟨r, hr, hst⟩ := some_still hok
  have hmono : ∀ d u, getB (sweepG x (rdK x (outM x) (r + 1))) u = true → getB (sweepG x (rdK x (outM x) (r + 1 + d))) u = true := by
    intro d
    induction d with
    | zero => exact fun u h => h
    | succ d ih => exact fun u h => (rdK_step hok (r + 1 + d)).1 u (ih u h)
  refine obs_eq (by rw [sweepG_len, a]) fun u => ⟨s1 u, fun hu => ?_⟩
  have key : getB (sweepG x (rdK x (outM x) (r + 1))) u = true := by
    obtain ⟨a', b', c'⟩ := rdK_facts hok (r + 1)
    obtain ⟨t1, t2, t3⟩ := sweepG_facts hok a' b'
    induction hu with
    | out h => exact t2 _ (c' _ h)
    | @kid v u hv hu ih =>
      by_cases hF : firstG x ≤ v
      · exact t3 v ih hF _ hu
      · by_cases hQ : firstQ x ≤ v
        · have hlt : v - firstQ x < x.2.1.length := by have := firstG_eq (x := x); omega
          have hv' : firstQ x + (v - firstQ x) = v := by omega
          exact (rdK_step hok r).2 (v - firstQ x) hlt (hst _ hlt (by rw [hv']; exact ih)) _ (by rw [hv']; exact hu)
        · unfold kidsO at hu
          rw [if_neg hF, if_neg hQ] at hu
          simp at hu
  have := hmono (x.2.1.length - r) u key
  rwa [show r + 1 + (x.2.1.length - r) = x.2.1.length + 1 by omega] at this
end Go.Proofs.Ytoppcdccplgalaa
