/-
  What accepted proofs say; what the search finds. Plain lemmas, about no function of the program.
  Conditions: those typed in each theorem.
-/
import Derived.Test.YtbmapbbjbdpbcaaQj
import Derived.Test.YtbmapbbjbdpbcaaQe
namespace Go.Proofs.Ytbmapbbjbdpbcaa
set_option linter.unusedVariables false
theorem chk_sound {a : List Bool} : ∀ (pf all : List (List Int)), clausesIn a.length all → chkGo a.length all pf = true → all.all (clauseTrueL a) = true → ∀ c ∈ pf, clauseTrueL a c = true
  | [], _, _, _, _ => by simp
  | c :: cs, all, hc, hk, ht => by
    unfold chkGo at hk
    simp only [Bool.and_eq_true] at hk
    obtain ⟨⟨h1, h2⟩, h3⟩ := hk
    have hl := clauseOk_lits h1
    have hct := follows_sound hc hl ht (by simpa using h2)
    have hrest := chk_sound cs (all ++ [c]) (fun d hd => by
      rcases List.mem_append.1 hd with h | h
      · exact hc d h
      · rw [List.mem_singleton.1 h]; exact hl) h3 (by rw [List.all_append, ht]; simp [hct])
    intro d hd
    rcases List.mem_cons.1 hd with rfl | hd
    · exact hct
    · exact hrest d hd
/-- If a proof is accepted, no assignment satisfies the formula, and its first clause follows. -/
theorem check_sound {v : Int} {cls pf : List (List Int)} (h : checkL v cls pf = true) : (∀ a, cnfTrueL v cls a = false) ∧ ∃ c cs, pf = c :: cs ∧ consL v cls c = true := by
  unfold checkL at h
  simp only [Bool.and_eq_true, decide_eq_true_eq] at h
  obtain ⟨⟨⟨⟨h1, h2⟩, h3⟩, h4⟩, h5⟩ := h
  have hr := rng_iff.1 h2
  constructor
  · intro a
    cases ht : cnfTrueL v cls a with
    | false => rfl
    | true =>
      unfold cnfTrueL at ht
      simp only [Bool.and_eq_true, decide_eq_true_eq] at ht
      obtain ⟨⟨_, t2⟩, t3⟩ := ht
      subst t2
      have hk := chk_sound pf cls (cnfOk_clauses h1) (by simpa using h5) t3
      have hlt : pf.length - 1 < pf.length := by omega
      have hm : pf.getD (pf.length - 1) [] ∈ pf := by
        rw [List.getD_eq_getElem?_getD, List.getElem?_eq_getElem hlt]; exact List.getElem_mem hlt
      have := hk _ hm
      rw [List.eq_nil_of_length_eq_zero h4] at this
      simp [clauseTrueL] at this
  · cases pf with
    | nil => simp at hr
    | cons c cs =>
      refine ⟨c, cs, rfl, ?_⟩
      unfold chkGo at h5
      simp only [Bool.and_eq_true] at h5
      unfold consL
      rw [h1, h5.1.1, h5.1.2]; rfl
/-! ### Fixpoints of propagation -/
/-- q has all values that p has. -/
def under (p q : List Int) : Prop := p.length = q.length ∧ ∀ m, p.getD m 0 ≠ 0 → q.getD m 0 = p.getD m 0
/-- No clause is false under q, and none has but one literal left. -/
def fixp (cls : List (List Int)) (q : List Int) : Prop := ∀ c ∈ cls, unitOf q c = (0, false)
theorem under_refl (p : List Int) : under p p := ⟨rfl, fun _ _ => rfl⟩
theorem under_trans {p q r : List Int} (h1 : under p q) (h2 : under q r) : under p r := ⟨h1.1.trans h2.1, fun m h => by rw [h2.2 m (by rw [h1.2 m h]; exact h), h1.2 m h]⟩
theorem val_of_under {p q : List Int} {l : Int} (h : under p q) (hl : litIn p.length l) (h0 : valOf p l ≠ 0) : valOf q l = valOf p l := by
  rcases lit_cases hl with ⟨m, hm, rfl⟩ | ⟨m, hm, rfl⟩
  · rw [val_pos] at h0 ⊢
    rw [val_pos, h.2 m h0]
  · rw [val_neg] at h0 ⊢
    rw [val_neg, h.2 m (by omega)]
theorem setLit_under {p q : List Int} {l : Int} (h : under p q) (hl : litIn p.length l) (hv : valOf q l = 1) : under (setLit p l) q := by
  refine ⟨by rw [setLit_len]; exact h.1, fun m' h0 => ?_⟩
  have key : ∀ (m : Nat) (x : Int), m < p.length → q.getD m 0 = x → (p.set m x).getD m' 0 ≠ 0 → q.getD m' 0 = (p.set m x).getD m' 0 := by
    intro m x hm hq hne
    rw [List.getD_eq_getElem?_getD (l := p.set m x), List.getElem?_set] at hne ⊢
    by_cases e : m = m'
    · subst e
      rw [hq]
      simp [hm]
    · rw [if_neg e, ← List.getD_eq_getElem?_getD] at hne ⊢
      exact h.2 m' hne
  rcases lit_cases hl with ⟨m, hm, rfl⟩ | ⟨m, hm, rfl⟩
  · rw [val_pos] at hv
    rw [setLit_pos] at h0 ⊢
    exact key m 1 hm hv h0
  · rw [val_neg] at hv
    rw [setLit_neg] at h0 ⊢
    exact key m (-1) hm (by omega) h0
theorem trit_val {p : List Int} (ht : trits p) {l : Int} (hl : litIn p.length l) : valOf p l = 0 ∨ valOf p l = 1 ∨ valOf p l = -1 := by
  rcases lit_cases hl with ⟨m, hm, rfl⟩ | ⟨m, hm, rfl⟩
  · rw [val_pos]
    have := trit_at ht m
    omega
  · rw [val_neg]
    have := trit_at ht m
    omega
theorem unitGo_says {p : List Int} (ht : trits p) : ∀ (cl : List Int) (u0 : Int), (∀ l ∈ cl, litIn p.length l) →
    ((unitGo p cl u0).2 = true → u0 = 0 ∧ ∀ l ∈ cl, valOf p l = -1) ∧ ((unitGo p cl u0).1 ≠ 0 → (u0 = 0 ∨ u0 = (unitGo p cl u0).1) ∧ ∀ l ∈ cl, valOf p l = -1 ∨ l = (unitGo p cl u0).1)
  | [], u0, _ => by
    unfold unitGo
    refine ⟨fun h => ⟨by simpa using h, by simp⟩, fun h => ⟨.inr rfl, by simp⟩⟩
  | l :: ls, u0, hl => by
    have hv := trit_val ht (hl l (by simp))
    have hls : ∀ x ∈ ls, litIn p.length x := fun x hx => hl x (by simp [hx])
    have hl0 : l ≠ 0 := (hl l (by simp)).1
    unfold unitGo
    by_cases e1 : valOf p l = 1
    · rw [if_pos e1]; exact ⟨fun h => (by cases h), fun h => absurd rfl h⟩
    rw [if_neg e1]
    by_cases e0 : valOf p l = 0
    · rw [if_pos e0]
      by_cases hu : u0 ≠ 0 ∧ u0 ≠ l
      · rw [if_pos hu]; exact ⟨fun h => (by cases h), fun h => absurd rfl h⟩
      · rw [if_neg hu]
        obtain ⟨a, b⟩ := unitGo_says ht ls l hls
        refine ⟨fun h => absurd (a h).1 hl0, fun h => ?_⟩
        obtain ⟨b1, b2⟩ := b h
        have e : l = (unitGo p ls l).1 := b1.resolve_left hl0
        refine ⟨?_, fun x hx => ?_⟩
        · by_cases h0 : u0 = 0
          · exact .inl h0
          · right
            have : u0 = l := Classical.byContradiction fun h' => hu ⟨h0, h'⟩
            rw [this]; exact e
        · rcases List.mem_cons.1 hx with rfl | hx
          · exact .inr e
          · exact b2 x hx
    · rw [if_neg e0]
      obtain ⟨a, b⟩ := unitGo_says ht ls u0 hls
      have em : valOf p l = -1 := by omega
      refine ⟨fun h => ⟨(a h).1, fun x hx => ?_⟩, fun h => ⟨(b h).1, fun x hx => ?_⟩⟩
      · rcases List.mem_cons.1 hx with rfl | hx
        · exact em
        · exact (a h).2 x hx
      · rcases List.mem_cons.1 hx with rfl | hx
        · exact .inl em
        · exact (b h).2 x hx
theorem unitGo_not {q : List Int} {u : Int} (hu : u ≠ 0) : ∀ (cl : List Int) (w0 : Int), (w0 = 0 ∨ w0 = u) → (∀ l ∈ cl, valOf q l = -1 ∨ (l = u ∧ valOf q l ≠ 1)) → unitGo q cl w0 ≠ (0, false)
  | [], w0, hw, _, h => by
    unfold unitGo at h
    simp only [Prod.mk.injEq, beq_eq_false_iff_ne, ne_eq] at h
    exact h.2 h.1
  | l :: ls, w0, hw, hl, h => by
    have h0 := hl l (by simp)
    have hls : ∀ x ∈ ls, valOf q x = -1 ∨ (x = u ∧ valOf q x ≠ 1) := fun x hx => hl x (by simp [hx])
    unfold unitGo at h
    rw [if_neg (by rcases h0 with h | ⟨_, h⟩ <;> omega)] at h
    by_cases e0 : valOf q l = 0
    · rw [if_pos e0] at h
      have e : l = u := by
        rcases h0 with h' | ⟨h', _⟩
        · omega
        · exact h'
      rw [if_neg (by rw [e]; rcases hw with h' | h' <;> simp [h'])] at h
      exact unitGo_not hu ls l (.inr e) hls h
    · rw [if_neg e0] at h
      exact unitGo_not hu ls w0 hw hls h
theorem unit_under {p q c : List Int} (h : under p q) (ht : trits p) (hl : ∀ l ∈ c, litIn p.length l) (hf : unitOf q c = (0, false)) : (unitOf p c).2 = false ∧ ((unitOf p c).1 ≠ 0 → valOf q (unitOf p c).1 = 1) := by
  obtain ⟨a, b⟩ := unitGo_says ht c 0 hl
  have neg : ∀ l ∈ c, valOf p l = -1 → valOf q l = -1 := fun l hm hv => by rw [val_of_under h (hl l hm) (by omega), hv]
  constructor
  · cases hc : (unitOf p c).2 with
    | false => rfl
    | true => exact absurd hf (unitGo_not (u := 1) (by omega) c 0 (.inl rfl) fun l hm => .inl (neg l hm ((a hc).2 l hm)))
  · intro hu
    apply Classical.byContradiction
    intro hv
    refine unitGo_not (u := (unitOf p c).1) hu c 0 (.inl rfl) (fun l hm => ?_) hf
    rcases (b hu).2 l hm with h' | h'
    · exact .inl (neg l hm h')
    · exact .inr ⟨h', by rw [h']; exact hv⟩
theorem passL_under {q : List Int} : ∀ (cls : List (List Int)) (p : List Int) (ch : Bool), under p q → trits p → clausesIn p.length cls → fixp cls q → ∃ p' ch', passL cls p ch = some (p', ch') ∧ under p' q ∧ trits p'
  | [], p, ch, h, ht, _, _ => ⟨p, ch, rfl, h, ht⟩
  | c :: cs, p, ch, h, ht, hc, hf => by
    have hin := hc c (by simp)
    obtain ⟨h1, h2⟩ := unit_under h ht hin (hf c (by simp))
    unfold passL
    rw [if_neg (by rw [h1]; simp)]
    by_cases h0 : (unitOf p c).1 = 0
    · rw [if_pos h0]
      exact passL_under cs p ch h ht (fun d hd => hc d (by simp [hd])) (fun d hd => hf d (by simp [hd]))
    · rw [if_neg h0]
      exact passL_under cs _ true (setLit_under h (hin _ (unitOf_mem h0).1) (h2 h0)) (trits_setLit ht _) (by rw [setLit_len]; exact fun d hd => hc d (by simp [hd])) (fun d hd => hf d (by simp [hd]))
/-- Propagation stays under a fixpoint. -/
theorem propL_under {cls : List (List Int)} {q : List Int} (hf : fixp cls q) {p : List Int} (hc : clausesIn p.length cls) (ht : trits p) (h : under p q) : ∃ p', propL cls p = some p' ∧ under p' q := by
  generalize hn : zerosL p = n
  induction n using Nat.strongRecOn generalizing p with
  | _ n ih =>
    subst hn
    obtain ⟨p', ch', h1, h2, h3⟩ := passL_under cls p false h ht hc hf
    have hlen : p'.length = p.length := h2.1.trans h.1.symm
    rw [propL, h1]
    simp only
    by_cases hz : ch' = true ∧ zerosL p' < zerosL p
    · rw [if_pos hz]
      exact ih _ hz.2 (by rw [hlen]; exact hc) h3 h2 rfl
    · rw [if_neg hz]
      exact ⟨p', rfl, h2⟩
theorem under_setLit {p : List Int} {u : Int} (hu : litIn p.length u) (h0 : valOf p u = 0) : under p (setLit p u) := by
  refine ⟨(setLit_len _ _).symm, fun m' hne => ?_⟩
  have key : ∀ (m : Nat) (x : Int), p.getD m 0 = 0 → (p.set m x).getD m' 0 = p.getD m' 0 := by
    intro m x hm
    by_cases e : m = m'
    · subst e; exact absurd hm hne
    · rw [List.getD_eq_getElem?_getD, List.getElem?_set_ne e, ← List.getD_eq_getElem?_getD]
  rcases lit_cases hu with ⟨m, hm, rfl⟩ | ⟨m, hm, rfl⟩
  · rw [val_pos] at h0; rw [setLit_pos]; exact key m 1 h0
  · rw [val_neg] at h0; rw [setLit_neg]; exact key m (-1) (by omega)
theorem passL_more : ∀ {cls : List (List Int)} {p p' : List Int} {ch ch' : Bool}, clausesIn p.length cls → passL cls p ch = some (p', ch') → under p p' ∧ (ch' = false → p' = p ∧ fixp cls p)
  | [], p, p', ch, ch', _, h => by
    simp only [passL, Option.some.injEq, Prod.mk.injEq] at h
    obtain ⟨rfl, rfl⟩ := h
    exact ⟨under_refl _, fun _ => ⟨rfl, by simp [fixp]⟩⟩
  | c :: cs, p, p', ch, ch', hc, h => by
    have hin := hc c (by simp)
    unfold passL at h
    by_cases h1 : (unitOf p c).2 = true
    · rw [if_pos h1] at h; cases h
    rw [if_neg h1] at h
    by_cases h0 : (unitOf p c).1 = 0
    · rw [if_pos h0] at h
      obtain ⟨a, b⟩ := passL_more (fun d hd => hc d (by simp [hd])) h
      refine ⟨a, fun hf => ⟨(b hf).1, fun d hd => ?_⟩⟩
      rcases List.mem_cons.1 hd with rfl | hd
      · exact Prod.ext h0 (by simpa using h1)
      · exact (b hf).2 d hd
    · rw [if_neg h0] at h
      have hm := unitOf_mem h0
      obtain ⟨a, b⟩ := passL_more (by rw [setLit_len]; exact fun d hd => hc d (by simp [hd])) h
      refine ⟨under_trans (under_setLit (hin _ hm.1) hm.2) a, fun hf => ?_⟩
      exfalso
      have hkeep : ∀ (cs : List (List Int)) (p p' : List Int) (ch' : Bool), passL cs p true = some (p', ch') → ch' = true := by
        intro cs
        induction cs with
        | nil => intro p p' ch' h; simp only [passL, Option.some.injEq, Prod.mk.injEq] at h; exact h.2.symm
        | cons c cs ih =>
          intro p p' ch' h
          unfold passL at h
          split at h
          · cases h
          · split at h
            · exact ih _ _ _ h
            · exact ih _ _ _ h
      rw [hkeep _ _ _ _ h] at hf
      cases hf
/-- Propagation ends at a fixpoint, above where it began. -/
theorem propL_fix {cls : List (List Int)} {p q : List Int} (hc : clausesIn p.length cls) (ht : trits p) (h : propL cls p = some q) : fixp cls q ∧ under p q := by
  generalize hn : zerosL p = n
  induction n using Nat.strongRecOn generalizing p with
  | _ n ih =>
    subst hn
    rw [propL_step hc ht] at h
    cases hp : passL cls p false with
    | none => rw [hp] at h; cases h
    | some r =>
      obtain ⟨p', ch⟩ := r
      rw [hp] at h
      obtain ⟨h1, h2, h3, h4, _⟩ := passL_facts hc ht hp
      obtain ⟨m1, m2⟩ := passL_more hc hp
      cases ch with
      | false =>
        simp only [Option.some.injEq] at h
        subst h
        obtain ⟨e, f⟩ := m2 rfl
        rw [e]
        exact ⟨f, under_refl _⟩
      | true =>
        obtain ⟨a, b⟩ := ih _ (h4 rfl rfl) (by rw [h1]; exact hc) h2 h rfl
        exact ⟨a, under_trans m1 b⟩
theorem negGo_says : ∀ {cl p d : List Int}, (∀ l ∈ cl, litIn p.length l) → negGo cl p = some d → trits p → (∀ l, litIn p.length l → valOf p l = 1 → valOf d l = 1) ∧ ∀ l ∈ cl, valOf d (-l) = 1
  | [], p, d, _, h, _ => by
    simp only [negGo, Option.some.injEq] at h
    subst h
    exact ⟨fun _ _ h => h, by simp⟩
  | l :: ls, p, d, hl, h, ht => by
    unfold negGo at h
    split at h
    · cases h
    rename_i hv
    have hli := hl l (by simp)
    have hln : litIn p.length (-l) := ⟨by have := hli.1; omega, by have := hli.2; omega, by have := hli.2; omega⟩
    obtain ⟨a, b⟩ := negGo_says (by rw [setLit_len]; exact fun x hx => hl x (by simp [hx])) h (trits_setLit ht _)
    rw [setLit_len] at a
    have self : valOf (setLit p (-l)) (-l) = 1 := by
      rcases lit_cases hli with ⟨m, hm, rfl⟩ | ⟨m, hm, rfl⟩
      · rw [setLit_neg, val_neg, List.getD_eq_getElem?_getD, List.getElem?_set]; simp [hm]
      · rw [setLit_n2, Int.neg_neg, val_pos, List.getD_eq_getElem?_getD, List.getElem?_set]; simp [hm]
    have keep : ∀ x, litIn p.length x → valOf p x = 1 → valOf (setLit p (-l)) x = 1 := by
      intro x hx hx1
      have hne : x ≠ l := fun e => hv (by rw [← e]; exact hx1)
      by_cases hxn : x = -l
      · rw [hxn]; exact self
      · have key : ∀ (m : Nat) (y : Int) (m' : Nat), m ≠ m' → (p.set m y).getD m' 0 = p.getD m' 0 := fun m y m' e => by
          rw [List.getD_eq_getElem?_getD, List.getElem?_set_ne e, ← List.getD_eq_getElem?_getD]
        rcases lit_cases hli with ⟨m, hm, rfl⟩ | ⟨m, hm, rfl⟩ <;> rcases lit_cases hx with ⟨m', hm', rfl⟩ | ⟨m', hm', rfl⟩
        · rw [setLit_neg, val_pos] at *; rw [key _ _ _ (by omega)]; exact hx1
        · rw [setLit_neg]; rw [val_neg] at hx1 ⊢; rw [key _ _ _ (by omega)]; exact hx1
        · rw [setLit_n2]; rw [val_pos] at hx1 ⊢; rw [key _ _ _ (by omega)]; exact hx1
        · rw [setLit_n2]; rw [val_neg] at hx1 ⊢; rw [key _ _ _ (by omega)]; exact hx1
    refine ⟨fun x hx hx1 => a x hx (keep x hx hx1), fun x hx => ?_⟩
    rcases List.mem_cons.1 hx with rfl | hx
    · exact a _ hln self
    · exact b x hx
end Go.Proofs.Ytbmapbbjbdpbcaa
