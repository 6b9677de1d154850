/-
  Fewer slots, under other numbers: a state that says less belongs to the memory too. Plain lemmas, about no function of the program.
  Conditions: those typed in each theorem.
-/
import Derived.Test.YtojhjcgalmaljaaV3
import Derived.Deep.LoopGhost
/-
  Fewer slots, under other numbers: a state that says less belongs to the memory too. Plain lemmas, about no function of the program.
  Conditions: those typed in each theorem.
-/
namespace Go.Proofs.Ytojhjcgalmaljaa
open Go.RowKit Go.ChangeShapes Go.WideShapes
set_option linter.unusedVariables false

section
variable {P : Program} {w0 : Base} {w w' : World} {φ φ' : Hdrs} {σ σ' : St} {a : Act} {sl sl' : List Slot} {Fs Fs' : List (List Nat)} {st : Bool} {π : List Nat}
theorem leSlots_at : ∀ {ks : List Nat} {ys : List Slot}, leSlots st sl π ks ys → ks.length = ys.length ∧ ∀ (i k : Nat) (y : Slot), ks[i]? = some k → ys[i]? = some y → ∃ x, sl[k]? = some x ∧ leS st sl π x y
  | [], [], _ => ⟨rfl, fun i k y h => by simp at h⟩
  | [], _ :: _, h => h.elim
  | _ :: _, [], h => h.elim
  | k :: ks, y :: ys, h => by
    obtain ⟨h1, h2⟩ := h
    obtain ⟨k1, k2⟩ := leSlots_at h2
    refine ⟨by simp [k1], fun i k' y' hk hy => ?_⟩
    match i with
    | 0 => simp at hk hy; subst hk hy; exact h1
    | i + 1 => exact k2 i k' y' (by simpa using hk) (by simpa using hy)
theorem le0s_at : ∀ {xs ys : List V}, le0s st sl π xs ys → xs.length = ys.length ∧ ∀ (i : Nat) (y : V), ys[i]? = some y → ∃ x, xs[i]? = some x ∧ le0 st sl π x y
  | [], [], _ => ⟨rfl, fun i y h => by simp at h⟩
  | [], _ :: _, h => h.elim
  | _ :: _, [], h => h.elim
  | x :: xs, y :: ys, h => by
    obtain ⟨h1, h2⟩ := h
    obtain ⟨k1, k2⟩ := le0s_at h2
    refine ⟨by simp [k1], fun i y' hy => ?_⟩
    match i with
    | 0 => simp at hy; subst hy; exact ⟨x, rfl, h1⟩
    | i + 1 => simpa using k2 i y' (by simpa using hy)
theorem leTmps_at : ∀ {xs ys : List V}, leTmps st sl π xs ys → xs.length = ys.length ∧ ∀ (i : Nat) (y : V), ys[i]? = some y → ∃ x, xs[i]? = some x ∧ leV st sl π x y
  | [], [], _ => ⟨rfl, fun i y h => by simp at h⟩
  | [], _ :: _, h => h.elim
  | _ :: _, [], h => h.elim
  | x :: xs, y :: ys, h => by
    obtain ⟨h1, h2⟩ := h
    obtain ⟨k1, k2⟩ := leTmps_at h2
    refine ⟨by simp [k1], fun i y' hy => ?_⟩
    match i with
    | 0 => simp at hy; subst hy; exact ⟨x, rfl, h1⟩
    | i + 1 => simpa using k2 i y' (by simpa using hy)
/-- The headers of the slots that are kept. -/
def keepH {α : Type} (π : List Nat) (φ : List α) (d : α) : List α := π.map fun k => (φ[k]?).getD d
theorem keepH_at {α : Type} {φ : List α} {d : α} {i k : Nat} {h : α} (hk : π[i]? = some k) (hh : φ[k]? = some h) : (keepH π φ d)[i]? = some h := by
  unfold keepH
  rw [List.getElem?_map, hk]
  simp [hh]
/-- The same place, and the same elements. -/
def SameS : Slot → Slot → Prop
  | .arr t _ es, .arr t' _ es' => t = t' ∧ es = es'
  | .var t _, .var t' _ => t = t'
  | _, _ => False
theorem leS_same {x y : Slot} (h : leS st sl π x y) : y = .dead ∨ SameS x y := by
  unfold leS at h
  split at h
  · exact .inl rfl
  · exact h.elim
  · rcases h with rfl | ⟨rfl, _, rfl⟩
    · exact .inr ⟨rfl, rfl⟩
    · exact .inr ⟨rfl, rfl⟩
  · obtain ⟨_, rfl, _⟩ := h
    exact .inr rfl
theorem SameS.live {x y : Slot} (h : SameS x y) : x.live ∧ y.live := by
  cases x <;> cases y <;> simp_all [SameS, Slot.live]
structure Gc (π : List Nat) (φ : Hdrs) (sl : List Slot) (φ' : Hdrs) (sl' : List Slot) : Prop where
  at_ : ∀ (i k : Nat), π[i]? = some k → ∃ x y h, sl[k]? = some x ∧ sl'[i]? = some y ∧ φ[k]? = some h ∧ φ'[i]? = some h ∧ (y = .dead ∨ SameS x y)
  len : π.length = sl'.length
theorem gc_top (hg : Gc π φ sl φ' sl') {b : Nat} (h : top φ' sl' b) : ∃ (k : Nat) (x : Slot) (c : Nat), k ∈ π ∧ sl[k]? = some x ∧ x.live ∧ φ[k]? = some (some b, c) := by
  obtain ⟨s, y, c, h1, h2, h3⟩ := h
  have hs : s < π.length := by rw [hg.len]; exact (List.getElem?_eq_some_iff.1 h1).1
  obtain ⟨x, y', hd, k1, k2, k3, k4, k5⟩ := hg.at_ s _ (List.getElem?_eq_getElem hs)
  rw [h1] at k2
  cases k2
  rw [h3] at k4
  cases k4
  rcases k5 with rfl | k5
  · exact h2.elim
  · exact ⟨_, x, c, List.getElem_mem hs, k1, k5.live.1, k3⟩
theorem ren0_vr (hg : Gc π φ sl φ' sl') {G G' : Nat → Prop} (hG : ∀ b, G b → G' b) {x y : V} {v : Value} (h : ren0 π y = some x) (hx : VR w G φ sl x v) : VR w G' φ' sl' y v := by
  have hk : ∀ b, G b → G' b ∧ ∀ o, w.cell? ⟨b, o, none⟩ = w.cell? ⟨b, o, none⟩ := fun b hb => ⟨hG b hb, fun _ => rfl⟩
  unfold ren0 at h
  split at h
  · rw [Option.map_eq_some_iff] at h
    obtain ⟨k, hi, rfl⟩ := h
    obtain ⟨x, y, hd, j1, j2, j3, j4, j5⟩ := hg.at_ _ _ hi
    have ho := hx.one rfl
    rcases j5 with rfl | j5
    · exact .gone j2 ho
    · cases hx with
      | gone h1 => rw [j1] at h1; cases h1; exact absurd j5.live.1 (by simp [Slot.live])
      | ref h1 h2 =>
        rw [j1] at h1
        cases h1
        rw [j3] at h2
        cases h2
        cases y <;> simp only [SameS] at j5
        obtain ⟨rfl, rfl⟩ := j5
        exact .ref j2 j4
  · rw [Option.map_eq_some_iff] at h
    obtain ⟨k, hi, rfl⟩ := h
    obtain ⟨x, y, hd, j1, j2, j3, j4, j5⟩ := hg.at_ _ _ hi
    have ho := hx.one rfl
    rcases j5 with rfl | j5
    · exact .litgone j2 ho
    · cases hx with
      | litgone h1 => rw [j1] at h1; cases h1; exact absurd j5.live.1 (by simp [Slot.live])
      | lit h1 h2 =>
        rw [j1] at h1
        cases h1
        rw [j3] at h2
        cases h2
        cases y <;> simp only [SameS] at j5
        exact .lit j2 j4
  · rw [Option.map_eq_some_iff] at h
    obtain ⟨k, hi, rfl⟩ := h
    obtain ⟨x, y, hd, j1, j2, j3, j4, j5⟩ := hg.at_ _ _ hi
    have ho := hx.one rfl
    rcases j5 with rfl | j5
    · exact .lost j2 ho
    · cases hx with
      | lost h1 => rw [j1] at h1; cases h1; exact absurd j5.live.1 (by simp [Slot.live])
      | ptr h1 h2 h3 =>
        rw [j3] at h3
        cases h3
        exact .ptr j2 j5.live.2 j4
  · rw [Option.map_eq_some_iff] at h
    obtain ⟨k, hi, rfl⟩ := h
    obtain ⟨x, y, hd, j1, j2, j3, j4, j5⟩ := hg.at_ _ _ hi
    have ho := hx.one rfl
    rcases j5 with rfl | j5
    · exact .elost j2 ho
    · cases hx with
      | elost h1 => rw [j1] at h1; cases h1; exact absurd j5.live.1 (by simp [Slot.live])
      | eptr h1 h2 =>
        rw [j1] at h1
        cases h1
        rw [j3] at h2
        cases h2
        cases y <;> simp only [SameS] at j5
        exact .eptr j2 j4
  · cases h; cases hx; exact .nil _
  · cases h; cases hx with | d hx => exact .d (hx.mono hk)
  · cases h; cases hx with | cptr u hG' hc hr => exact .cptr u (hG _ hG') hc (fun j d hd => (hr j d hd).mono hk)
  · exact .any _
  · cases h
theorem ren0s_at : ∀ {ys xs : List V}, ren0s π ys = some xs → xs.length = ys.length ∧ ∀ (i : Nat) (y : V), ys[i]? = some y → ∃ x, xs[i]? = some x ∧ ren0 π y = some x
  | [], xs, h => by simp [ren0s] at h; subst h; exact ⟨rfl, fun i y h => by simp at h⟩
  | y :: ys, xs, h => by
    unfold ren0s at h
    split at h
    · rename_i x xs' h1 h2
      cases h
      obtain ⟨k1, k2⟩ := ren0s_at h2
      refine ⟨by simp [k1], fun i y' hy => ?_⟩
      match i with
      | 0 => simp at hy; subst hy; exact ⟨x, rfl, h1⟩
      | i + 1 => simpa using k2 i y' (by simpa using hy)
    · cases h
theorem cnt_keep (q : Nat) : ∀ {Fs : List (List Nat)}, π.Nodup → (∀ k ∈ π, k < Fs.length) → cnt q (keepH π Fs []) ≤ cnt q Fs := by
  intro Fs hn hl
  have := cnt_killF q hn hl
  have e : keepH π Fs [] = π.map fun k => (Fs[k]?).getD [] := rfl
  have e2 : cnt q (keepH π Fs []) = (ofSlots Fs π).count q := by rw [e]; rfl
  omega
/-- What a slot that says less owns. -/
def cutF : Slot → List Nat → List Nat
  | .dead, _ => []
  | .unborn, _ => []
  | .arr _ false _, F => F.take 1
  | _, F => F
theorem cutF_count (y : Slot) (F : List Nat) (q : Nat) : (cutF y F).count q ≤ F.count q := by
  unfold cutF
  split
  · simp
  · simp
  · exact (List.take_sublist 1 F).count_le q
  · exact Nat.le_refl _
theorem cnt_cut (q : Nat) : ∀ (ys : List Slot) (Gs : List (List Nat)), cnt q (List.zipWith cutF ys Gs) ≤ cnt q Gs
  | [], Gs => by simp [cnt]
  | y :: ys, [] => by simp [cnt]
  | y :: ys, G :: Gs => by
    have := cnt_cut q ys Gs
    have := cutF_count y G q
    simp [cnt] at *
    omega
/-- A row, however it is owned, as a row that is read. -/
theorem row_weaken (hm : MemR P w0 φ sl w Fs) {s : Nat} {t : TypeId} {ow : Bool} {es : List (List D)} {hd : Option Nat × Nat} {F : List Nat} {G : Nat → Prop} (hs : sl[s]? = some (.arr t ow es)) (hp : φ[s]? = some hd) (hF : Fs[s]? = some F)
    (hG : ∀ b, good w0.R φ sl w b → G b) (hX : ow = true → w0.st = false) : RowOf P w (Rds w G) t es hd.1 hd.2 (F.take 1) := by
  have hrep : ∀ k : Nat, (List.replicate k ([] : List Nat)).flatten = [] := fun k => by induction k with | zero => rfl | succ k ih => simp [List.replicate_succ, ih]
  have hnd := nodup_of_flat hm.nd (List.mem_of_getElem? hF)
  have hsr := hm.sr s _ hd F hs hp hF
  have fin : ∀ {R : List D → List Value → List Nat → Prop}, RowOf P w R t es hd.1 hd.2 F → (∀ e cs f, (∀ q ∈ f, q ∈ F ∧ hd.1 ≠ some q) → R e cs f → ∃ f', Rds w G e cs f') → RowOf P w (Rds w G) t es hd.1 hd.2 (F.take 1) := by
    intro R hr hR
    obtain ⟨q1, q2, ⟨e1, e2, rfl⟩ | ⟨g, cur, Gs, e1, q3, q4, q5, q6, q7, rfl⟩⟩ := hr
    · exact ⟨q1, q2, .inl ⟨e1, e2, rfl⟩⟩
    · refine ⟨q1, q2, .inr ⟨g, cur, List.replicate es.length [], e1, q3, q4, by simp, q6, fun i x f hx hf => ?_, by rw [hrep]; rfl⟩⟩
      have hil := (List.getElem?_eq_some_iff.1 hx).1
      rw [List.getElem?_replicate, if_pos hil] at hf
      cases hf
      have hf : Gs[i]? = some (Gs[i]'(by omega)) := List.getElem?_eq_getElem _
      obtain ⟨f', r1, r2, r3⟩ := hR _ _ _ (fun q hq => ⟨List.mem_cons_of_mem _ (mem_flat hf hq), fun e => by rw [e1] at e; cases e; exact (List.nodup_cons.1 hnd).1 (mem_flat hf hq)⟩) (q7 i x _ hx hf)
      exact ⟨rfl, r2, r3⟩
  cases ow with
  | false => exact fin hsr fun e cs f _ hr => ⟨f, hr.mono fun b hb => ⟨hG b hb, fun _ => rfl⟩⟩
  | true =>
    refine fin hsr fun e cs f hq ho => ⟨[], ho.rds fun q hqf => hG q ⟨ho.lt q hqf, ?_, hm.rd (hX rfl) (mem_flat hF (hq q hqf).1)⟩⟩
    rintro ⟨s2, x2, c2, j1, j2, j3⟩
    obtain ⟨hd2, F2, j4, j5, j6⟩ := hm.at_ j1
    rw [j3] at j4
    cases j4
    by_cases hss : s2 = s
    · subst hss
      rw [hp] at j3
      cases j3
      exact (hq q hqf).2 rfl
    · exact flat_disj hm.nd hF j5 (fun e => hss e.symm) q (hq q hqf).1 (j6.head j2)
/-- Fewer slots: what they hold, what a value is. -/
structure Less (P : Program) (φ' : Hdrs) (sl' : List Slot) (w : World) (Fs' : List (List Nat)) (G : Nat → Prop) : Prop where
  flen : φ'.length = sl'.length
  Flen : Fs'.length = sl'.length
  sr : ∀ (s : Nat) (x : Slot) (h : Option Nat × Nat) (F : List Nat), sl'[s]? = some x → φ'[s]? = some h → Fs'[s]? = some F → SR P w G φ' sl' x h F
theorem le_core (hst : w0.st = st) (hm : MemR P w0 φ sl w Fs) (hn : π.Nodup) (hs : leSlots st sl π π sl') {G : Nat → Prop} (hG : ∀ b, good w0.R φ sl w b → G b)
    (hX : st = false → ∀ b, good w0.R (keepH π φ (none, 0)) sl' w b → G b) :
    Gc π φ sl (keepH π φ (none, 0)) sl' ∧ Less P (keepH π φ (none, 0)) sl' w (List.zipWith cutF sl' (keepH π Fs [])) G ∧
    (∀ (x y : V) (v : Value), leV st sl π x y → VR w (good w0.R φ sl w) φ sl x v → VR w G (keepH π φ (none, 0)) sl' y v) := by
  obtain ⟨s1, s2⟩ := leSlots_at hs
  have hkl : ∀ k ∈ π, k < sl.length := fun k hk => by
    obtain ⟨i, hi, rfl⟩ := List.mem_iff_getElem.1 hk
    obtain ⟨x, hx, _⟩ := s2 i _ _ (List.getElem?_eq_getElem hi) (List.getElem?_eq_getElem (by omega))
    exact (List.getElem?_eq_some_iff.1 hx).1
  have hg : Gc π φ sl (keepH π φ (none, 0)) sl' := ⟨fun i k hk => by
    have hi : i < sl'.length := by rw [← s1]; exact (List.getElem?_eq_some_iff.1 hk).1
    obtain ⟨x, hx, hr⟩ := s2 i k _ hk (List.getElem?_eq_getElem hi)
    have hh : φ[k]? = some (φ[k]'(by rw [hm.flen]; exact (List.getElem?_eq_some_iff.1 hx).1)) := List.getElem?_eq_getElem _
    exact ⟨x, _, _, hx, List.getElem?_eq_getElem hi, hh, keepH_at hk hh, leS_same hr⟩, s1⟩
  -- blocks of a slot that is not kept are good ones now
  have hfz : ∀ (s : Nat) (F : List Nat), st = false → s ∉ π → Fs[s]? = some F → ∀ b ∈ F, G b := by
    intro s F h0 hsp hF b hb
    refine hX h0 b ⟨hm.lt b (mem_flat hF hb), fun ht => ?_, hm.rd (hst.trans h0) (mem_flat hF hb)⟩
    obtain ⟨k, x, c, k1, k2, k3, k4⟩ := gc_top hg ht
    obtain ⟨hd2, F2, k5, k6, k7⟩ := hm.at_ k2
    rw [k4] at k5
    cases k5
    exact flat_disj hm.nd hF k6 (fun e => hsp (e ▸ k1)) b hb (k7.head k3)
  have v0 : ∀ (x y : V) (v : Value), le0 st sl π x y → VR w (good w0.R φ sl w) φ sl x v → VR w G (keepH π φ (none, 0)) sl' y v := by
    intro x y v h hx
    rcases h with rfl | h | ⟨d, rfl, h0, hp, hsp⟩
    · exact .any _
    · exact ren0_vr hg hG h hx
    · exact .d (presD_rd hp hm hx hG fun s e F hF b hb => hfz s F h0 (hsp s e) hF b hb)
  have v0s : ∀ {xs ys : List V} {vs : List Value}, le0s st sl π xs ys → vs.length = xs.length → (∀ (i : Nat) (x : V) (v : Value), xs[i]? = some x → vs[i]? = some v → VR w (good w0.R φ sl w) φ sl x v) →
      vs.length = ys.length ∧ ∀ (i : Nat) (y : V) (v : Value), ys[i]? = some y → vs[i]? = some v → VR w G (keepH π φ (none, 0)) sl' y v := by
    intro xs ys vs h hl hv
    obtain ⟨k1, k2⟩ := le0s_at h
    refine ⟨by omega, fun i y v hy hv' => ?_⟩
    obtain ⟨x, hx, hr⟩ := k2 i y hy
    exact v0 x y v hr (hv i x v hx hv')
  refine ⟨hg, ⟨by simp [keepH, s1], by simp [keepH, s1], fun i y hd F h1 h2 h3 => ?_⟩, fun x y v h hx => ?_⟩
  · have hi : i < π.length := by rw [s1]; exact (List.getElem?_eq_some_iff.1 h1).1
    obtain ⟨x, hx, hle⟩ := s2 i _ y (List.getElem?_eq_getElem hi) h1
    obtain ⟨hd2, F2, j1, j2, j3⟩ := hm.at_ hx
    rw [keepH_at (List.getElem?_eq_getElem hi) j1] at h2
    cases h2
    rw [List.getElem?_zipWith, h1, keepH_at (List.getElem?_eq_getElem hi) j2] at h3
    cases h3
    unfold leS at hle
    split at hle
    · rfl
    · exact hle.elim
    · rename_i t ow es
      rcases hle with rfl | ⟨rfl, h0, rfl⟩
      · cases ow with
        | true => exact j3
        | false => exact row_weaken hm hx j1 j2 hG (by simp)
      · exact row_weaken hm hx j1 j2 hG (fun _ => hst.trans h0)
    · rename_i t ys
      obtain ⟨xs, rfl, hr⟩ := hle
      obtain ⟨g, cur, e1, e2, e3, e4, e5⟩ := j3
      obtain ⟨r1, r2⟩ := le0s_at hr
      refine ⟨g, cur, e1, e2, e3, by omega, fun j y v hy hv => ?_⟩
      obtain ⟨x, hx, hrx⟩ := r2 j y hy
      exact ⟨v0 _ _ _ hrx (e5 j x v hx hv).1, (e5 j x v hx hv).2⟩
  · unfold leV at h
    split at h
    · obtain ⟨xs, rfl, hr⟩ := h
      cases hx with
      | agg hl h1 hv => obtain ⟨k1, k2⟩ := v0s hr hl hv; exact .agg k1 h1 k2
    · obtain ⟨xs, rfl, hr⟩ := h
      cases hx with
      | fn hl hv => obtain ⟨k1, k2⟩ := v0s hr hl hv; exact .fn k1 k2
    · exact v0 x y v h hx
theorem isPin_at : ∀ {n : Nat} {π : List Nat} {i : Nat}, isPin n π i = true → ∀ j, j < n → π[j]? = some (i + j)
  | 0, _, _, _, j, h => by omega
  | n + 1, [], _, h, _, _ => by simp [isPin] at h
  | n + 1, k :: ks, i, h, j, hj => by
    simp only [isPin, Bool.and_eq_true, beq_iff_eq] at h
    match j with
    | 0 => simp [h.1]
    | j + 1 =>
      have := isPin_at h.2 j (by omega)
      simp only [List.getElem?_cons_succ, this]
      congr 1
      omega
theorem Rel.le {m : Mode} (hst : w0.st = m.st) (hpin : w0.H.length ≤ m.pin) (h : Rel P w0 φ σ a w) (hle : Le m σ σ') : ∃ φ', Rel P w0 φ' σ' a w := by
  obtain ⟨π, hn, hpn, hs, ht⟩ := hle
  obtain ⟨Fs, hm⟩ := h.mem
  obtain ⟨t1, t2⟩ := leTmps_at ht
  obtain ⟨s1, s2⟩ := leSlots_at hs
  have hkl : ∀ k ∈ π, k < Fs.length := fun k hk => by
    obtain ⟨i, hi, rfl⟩ := List.mem_iff_getElem.1 hk
    obtain ⟨x, hx, _⟩ := s2 i _ _ (List.getElem?_eq_getElem hi) (List.getElem?_eq_getElem (by omega))
    rw [hm.Flen]
    exact (List.getElem?_eq_some_iff.1 hx).1
  have hcnt : ∀ q, cnt q (List.zipWith cutF σ'.slots (keepH π Fs [])) ≤ cnt q Fs := fun q => Nat.le_trans (cnt_cut q _ _) (cnt_keep q hn hkl)
  have htop : ∀ {φ' : Hdrs}, Gc π φ σ.slots φ' σ'.slots → ∀ b, top φ' σ'.slots b → top φ σ.slots b := fun hg b hb => by
    obtain ⟨k, x, c, _, k2, k3, k4⟩ := gc_top hg hb
    exact ⟨k, x, c, k2, k3, k4⟩
  obtain ⟨hg0, _, _⟩ := le_core (G := fun _ => True) hst hm hn hs (fun _ _ => trivial) (fun _ _ _ => trivial)
  have hG : ∀ b, good w0.R φ σ.slots w b → good w0.R (keepH π φ (none, 0)) σ'.slots w b := fun b hb => ⟨hb.1, fun ht => hb.2.1 (htop hg0 b ht), hb.2.2⟩
  obtain ⟨hg, hl, hv⟩ := le_core (G := good w0.R (keepH π φ (none, 0)) σ'.slots w) hst hm hn hs hG (fun _ _ h => h)
  refine ⟨keepH π φ (none, 0), ⟨_, hm.only, fun b hb => hm.tops b (htop hg b hb), hl.flen, hl.Flen, nodup_cnt hm.nd hcnt, fun q hq => hm.ge q (mem_cnt hcnt hq), fun i hd hi => ?_, hl.sr⟩, h.defers, by rw [h.tlen, t1], fun i y v hy hv' => ?_⟩
  · obtain ⟨p1, p2⟩ := hm.pin i hd hi
    have hil : i < m.pin := Nat.lt_of_lt_of_le (List.getElem?_eq_some_iff.1 hi).1 hpin
    have hpi := isPin_at hpn i hil
    rw [Nat.zero_add] at hpi
    obtain ⟨x, y, h', k1, k2, k3, k4, k5⟩ := hg.at_ i i hpi
    rw [p1] at k3
    cases k3
    refine ⟨k4, fun hu => ?_⟩
    rw [k2] at hu
    cases hu
    rcases k5 with k5 | k5
    · cases k5
    · exact k5.live.2
  · obtain ⟨x, hx, hr⟩ := t2 i y hy
    exact hv x y v hr (h.tmps i x v hx hv')
end
end Go.Proofs.Ytojhjcgalmaljaa

/-
  Calls that turn slots, by their contracts. Plain lemmas, about no function of the program.
  Conditions: those typed in each theorem.
-/
namespace Go.Proofs.Ytojhjcgalmaljaa
open Go.RowKit Go.ChangeShapes Go.WideShapes
set_option linter.unusedVariables false

section
variable {α : Type} {xs ys : List α} {π : List Nat}
theorem setAll_len : ∀ (π : List Nat) (xs ys : List α), (setAll xs π ys).length = xs.length
  | [], xs, ys => by cases ys <;> rfl
  | k :: ks, xs, [] => rfl
  | k :: ks, xs, y :: ys => by rw [setAll, setAll_len ks, List.length_set]
theorem setAll_other : ∀ (π : List Nat) (xs ys : List α) {j : Nat}, j ∉ π → (setAll xs π ys)[j]? = xs[j]?
  | [], xs, ys, j, _ => by cases ys <;> rfl
  | k :: ks, xs, [], j, _ => rfl
  | k :: ks, xs, y :: ys, j, h => by
    rw [setAll, setAll_other ks _ _ (fun hj => h (List.mem_cons_of_mem _ hj)), List.getElem?_set_ne (fun e => h (by rw [e]; simp))]
theorem setAll_at : ∀ (π : List Nat) (xs ys : List α) {i k : Nat}, π.Nodup → (∀ k ∈ π, k < xs.length) → π.length = ys.length → π[i]? = some k → (setAll xs π ys)[k]? = ys[i]?
  | [], xs, ys, i, k, _, _, _, h => by simp at h
  | q :: ks, xs, [], i, k, _, _, hl, h => by simp at hl
  | q :: ks, xs, y :: ys, i, k, hn, hl, hlen, h => by
    rw [List.nodup_cons] at hn
    rw [setAll]
    match i with
    | 0 =>
      simp at h
      subst h
      rw [setAll_other ks _ _ hn.1, List.getElem?_set_self (hl q (by simp))]
      rfl
    | i + 1 =>
      simp at h
      rw [setAll_at ks _ ys hn.2 (fun j hj => by rw [List.length_set]; exact hl j (by simp [hj])) (by simpa using hlen) h]
      rfl
end
theorem cnt_setAll (q : Nat) : ∀ (π : List Nat) (Fs Gs : List (List Nat)), π.Nodup → (∀ k ∈ π, k < Fs.length) → π.length = Gs.length → cnt q (setAll Fs π Gs) + (ofSlots Fs π).count q = cnt q Fs + cnt q Gs
  | [], Fs, [], _, _, _ => by simp [setAll, ofSlots, cnt]
  | [], Fs, _ :: _, _, _, h => by simp at h
  | k :: ks, Fs, [], _, _, h => by simp at h
  | k :: ks, Fs, G :: Gs, hn, hl, hlen => by
    rw [List.nodup_cons] at hn
    have hk := hl k (by simp)
    have hF : Fs[k]? = some Fs[k] := List.getElem?_eq_getElem hk
    have ih := cnt_setAll q ks (Fs.set k G) Gs hn.2 (fun j hj => by rw [List.length_set]; exact hl j (by simp [hj])) (by simpa using hlen)
    have hset := cnt_set q (F' := G) hF
    have hof : ofSlots (Fs.set k G) ks = ofSlots Fs ks := by
      unfold ofSlots
      congr 1
      apply List.map_congr_left
      intro j hj
      rw [List.getElem?_set_ne (fun e : k = j => hn.1 (by rw [e]; exact hj))]
    rw [hof] at ih
    have hc : ofSlots Fs (k :: ks) = Fs[k] ++ ofSlots Fs ks := by simp [ofSlots, hF]
    have hg : cnt q (G :: Gs) = G.count q + cnt q Gs := by simp [cnt]
    rw [setAll, hc, List.count_append, hg]
    omega
theorem nodup_range' : ∀ (n s : Nat), (List.range' s n).Nodup := fun n s => List.nodup_range' ..

section
variable {P : Program} {w0 : Base} {w w' : World} {φ φ' φ'' : Hdrs} {σ σ' : St} {a : Act} {sl sl' sl'' : List Slot} {Fs Fs' : List (List Nat)} {π : List Nat} {G G' : Nat → Prop}
/-- Slots, and where they are listed. -/
def Emb (π : List Nat) (φ' : Hdrs) (sl' : List Slot) (φ'' : Hdrs) (sl'' : List Slot) : Prop :=
  ∀ (i k : Nat), π[i]? = some k → ∃ y x h, sl'[i]? = some y ∧ sl''[k]? = some x ∧ renS π y = some x ∧ φ'[i]? = some h ∧ φ''[k]? = some h
theorem renS_kind {x y : Slot} (h : renS π y = some x) : (y = .dead ∧ x = .dead) ∨ SameS y x := by
  unfold renS at h
  split at h
  · cases h; exact .inr ⟨rfl, rfl⟩
  · rw [Option.map_eq_some_iff] at h; obtain ⟨_, _, rfl⟩ := h; exact .inr rfl
  · cases h; exact .inl ⟨rfl, rfl⟩
  · cases h
theorem push0 (he : Emb π φ' sl' φ'' sl'') (hG : ∀ b, G b → G' b) {x y : V} {v : Value} (h : ren0 π y = some x) (hy : VR w G φ' sl' y v) : VR w G' φ'' sl'' x v := by
  have hk : ∀ b, G b → G' b ∧ ∀ o, w.cell? ⟨b, o, none⟩ = w.cell? ⟨b, o, none⟩ := fun b hb => ⟨hG b hb, fun _ => rfl⟩
  unfold ren0 at h
  split at h
  · rw [Option.map_eq_some_iff] at h
    obtain ⟨k, hi, rfl⟩ := h
    obtain ⟨y, x, hd, j1, j2, j3, j4, j5⟩ := he _ _ hi
    have ho := hy.one rfl
    rcases renS_kind j3 with ⟨rfl, rfl⟩ | hk
    · exact .gone j2 ho
    · cases hy with
      | gone h1 => rw [j1] at h1; cases h1; exact absurd hk.live.1 (by simp [Slot.live])
      | ref h1 h2 =>
        rw [j1] at h1
        cases h1
        rw [j4] at h2
        cases h2
        cases x <;> simp only [SameS] at hk
        obtain ⟨rfl, rfl⟩ := hk
        exact .ref j2 j5
  · rw [Option.map_eq_some_iff] at h
    obtain ⟨k, hi, rfl⟩ := h
    obtain ⟨y, x, hd, j1, j2, j3, j4, j5⟩ := he _ _ hi
    have ho := hy.one rfl
    rcases renS_kind j3 with ⟨rfl, rfl⟩ | hk
    · exact .litgone j2 ho
    · cases hy with
      | litgone h1 => rw [j1] at h1; cases h1; exact absurd hk.live.1 (by simp [Slot.live])
      | lit h1 h2 =>
        rw [j1] at h1
        cases h1
        rw [j4] at h2
        cases h2
        cases x <;> simp only [SameS] at hk
        exact .lit j2 j5
  · rw [Option.map_eq_some_iff] at h
    obtain ⟨k, hi, rfl⟩ := h
    obtain ⟨y, x, hd, j1, j2, j3, j4, j5⟩ := he _ _ hi
    have ho := hy.one rfl
    rcases renS_kind j3 with ⟨rfl, rfl⟩ | hk
    · exact .lost j2 ho
    · cases hy with
      | lost h1 => rw [j1] at h1; cases h1; exact absurd hk.live.1 (by simp [Slot.live])
      | ptr h1 h2 h3 =>
        rw [j4] at h3
        cases h3
        exact .ptr j2 hk.live.2 j5
  · rw [Option.map_eq_some_iff] at h
    obtain ⟨k, hi, rfl⟩ := h
    obtain ⟨y, x, hd, j1, j2, j3, j4, j5⟩ := he _ _ hi
    have ho := hy.one rfl
    rcases renS_kind j3 with ⟨rfl, rfl⟩ | hk
    · exact .elost j2 ho
    · cases hy with
      | elost h1 => rw [j1] at h1; cases h1; exact absurd hk.live.1 (by simp [Slot.live])
      | eptr h1 h2 =>
        rw [j1] at h1
        cases h1
        rw [j4] at h2
        cases h2
        cases x <;> simp only [SameS] at hk
        exact .eptr j2 j5
  · cases h; cases hy; exact .nil _
  · cases h; cases hy with | d hx => exact .d (hx.mono hk)
  · cases h; cases hy with | cptr u hG' hc hr => exact .cptr u (hG _ hG') hc (fun j d hd => (hr j d hd).mono hk)
  · cases h; exact .any _
  · cases h
theorem push0s (he : Emb π φ' sl' φ'' sl'') (hG : ∀ b, G b → G' b) {xs ys : List V} {vs : List Value} (h : ren0s π ys = some xs) (hl : vs.length = ys.length) (hv : ∀ (i : Nat) (y : V) (v : Value), ys[i]? = some y → vs[i]? = some v → VR w G φ' sl' y v) :
    vs.length = xs.length ∧ ∀ (i : Nat) (x : V) (v : Value), xs[i]? = some x → vs[i]? = some v → VR w G' φ'' sl'' x v := by
  obtain ⟨k1, k2⟩ := ren0s_at h
  refine ⟨by omega, fun i x v hx hv' => ?_⟩
  have hi : i < ys.length := by rw [← k1]; exact (List.getElem?_eq_some_iff.1 hx).1
  obtain ⟨x', hx', hr⟩ := k2 i _ (List.getElem?_eq_getElem hi)
  rw [hx] at hx'
  cases hx'
  exact push0 he hG hr (hv i _ v (List.getElem?_eq_getElem hi) hv')
theorem push (he : Emb π φ' sl' φ'' sl'') (hG : ∀ b, G b → G' b) {x y : V} {v : Value} (h : ren π y = some x) (hy : VR w G φ' sl' y v) : VR w G' φ'' sl'' x v := by
  unfold ren at h
  split at h
  · rw [Option.map_eq_some_iff] at h
    obtain ⟨xs, hr, rfl⟩ := h
    cases hy with
    | agg hl h1 hv => obtain ⟨k1, k2⟩ := push0s he hG hr hl hv; exact .agg k1 h1 k2
  · rw [Option.map_eq_some_iff] at h
    obtain ⟨xs, hr, rfl⟩ := h
    cases hy with
    | fn hl hv => obtain ⟨k1, k2⟩ := push0s he hG hr hl hv; exact .fn k1 k2
  · exact push0 he hG h hy
theorem rens_at : ∀ {ys xs : List V}, rens π ys = some xs → xs.length = ys.length ∧ ∀ (i : Nat) (y : V), ys[i]? = some y → ∃ x, xs[i]? = some x ∧ ren π y = some x
  | [], xs, h => by simp [rens] at h; subst h; exact ⟨rfl, fun i y h => by simp at h⟩
  | y :: ys, xs, h => by
    unfold rens at h
    split at h
    · rename_i x xs' h1 h2
      cases h
      obtain ⟨k1, k2⟩ := rens_at h2
      refine ⟨by simp [k1], fun i y' hy => ?_⟩
      match i with
      | 0 => simp at hy; subst hy; exact ⟨x, rfl, h1⟩
      | i + 1 => simpa using k2 i y' (by simpa using hy)
    · cases h
theorem pushT (he : Emb π φ' sl' φ'' sl'') (hG : ∀ b, G b → G' b) {x y : V} {v : Value} (h : renT π y = some x) (hy : VR w G φ' sl' y v) : VR w G' φ'' sl'' x v := by
  unfold renT at h
  split at h
  · rw [Option.map_eq_some_iff] at h
    obtain ⟨xs, hr, rfl⟩ := h
    cases hy with
    | tup hl hv =>
      obtain ⟨k1, k2⟩ := rens_at hr
      refine .tup (by omega) fun i x v hx hv' => ?_
      rename_i ys vs
      have hi : i < ys.length := by rw [← k1]; exact (List.getElem?_eq_some_iff.1 hx).1
      obtain ⟨x', hx', hr⟩ := k2 i _ (List.getElem?_eq_getElem hi)
      rw [hx] at hx'
      cases hx'
      exact push he hG hr (hv i _ v (List.getElem?_eq_getElem hi) hv')
  · exact push he hG h hy
theorem pushS (he : Emb π φ' sl' φ'' sl'') (hG : ∀ b, G b → G' b) {x y : Slot} {h : Option Nat × Nat} {F : List Nat} (hr : renS π y = some x) (hy : SR P w G φ' sl' y h F) : SR P w G' φ'' sl'' x h F := by
  have hk : ∀ b, G b → G' b ∧ ∀ o, w.cell? ⟨b, o, none⟩ = w.cell? ⟨b, o, none⟩ := fun b hb => ⟨hG b hb, fun _ => rfl⟩
  unfold renS at hr
  split at hr
  · rename_i t ow es
    cases hr
    cases ow with
    | true => exact hy
    | false => exact RowOf.stay hy (fun _ _ => rfl) fun _ _ _ _ _ hr => hr.mono hk
  · rename_i t ys
    rw [Option.map_eq_some_iff] at hr
    obtain ⟨xs, hr, rfl⟩ := hr
    obtain ⟨g, cur, e1, e2, e3, e4, e5⟩ := hy
    obtain ⟨k1, k2⟩ := ren0s_at hr
    refine ⟨g, cur, e1, e2, e3, by omega, fun i x v hx hv => ?_⟩
    have hi : i < ys.length := by rw [← k1]; exact (List.getElem?_eq_some_iff.1 hx).1
    obtain ⟨x', hx', hr'⟩ := k2 i _ (List.getElem?_eq_getElem hi)
    rw [hx] at hx'
    cases hx'
    have := e5 i _ v (List.getElem?_eq_getElem hi) hv
    exact ⟨push0 he hG hr' this.1, this.2⟩
  · cases hr; exact hy
  · cases hr
theorem arrsOk_at : ∀ {ks : List Nat}, arrsOk sl ks → ∀ k ∈ ks, ∃ t ow es, sl[k]? = some (.arr t ow es)
  | [], _, k, hk => by simp at hk
  | q :: ks, h, k, hk => by
    rcases List.mem_cons.1 hk with rfl | hk
    · exact h.1
    · exact arrsOk_at h.2 k hk
theorem view_vr (hm : MemR P w0 φ sl w Fs) {ks : List Nat} (hk : ∀ k ∈ ks, ∃ t ow es, sl[k]? = some (.arr t ow es)) (hG : ∀ b, good w0.R φ sl w b → good w0.R φ (kill ks sl) w b) (hF : ∀ k ∈ ks, ∀ F, Fs[k]? = some F → ∀ b ∈ F, good w0.R φ (kill ks sl) w b)
    (ht : Turn P w0 φ sl w φ (kill ks sl) w) {x : V} {v : Value} (hx : VR w (good w0.R φ sl w) φ sl x v) : VR w (good w0.R φ (kill ks sl) w) φ (kill ks sl) (viewV sl ks x) v := by
  have v0 : ∀ {x : V} {v : Value}, VR w (good w0.R φ sl w) φ sl x v → VR w (good w0.R φ (kill ks sl) w) φ (kill ks sl) (view0 sl ks x) v := by
    intro x v hx
    unfold view0
    split
    · rename_i s
      split
      · rename_i hs
        split
        · rename_i t ow es he
          exact .d (presD_rd (x := .ref s) (by simp [presD, he]) hm hx hG fun s' e F hF' => by cases e; exact hF _ hs F hF')
        · exact hx.mono ht.2.hk ht.2.hs ht.2.hp
      · exact hx.mono ht.2.hk ht.2.hs ht.2.hp
    · exact hx.mono ht.2.hk ht.2.hs ht.2.hp
  unfold viewV
  split
  · cases hx with
    | agg hl h1 hv =>
      refine .agg (by simpa using hl) h1 fun i x v hx hv' => ?_
      rw [List.getElem?_map, Option.map_eq_some_iff] at hx
      obtain ⟨y, hy, rfl⟩ := hx
      exact v0 (hv i y v hy hv')
  · cases hx with
    | fn hl hv =>
      refine .fn (by simpa using hl) fun i x v hx hv' => ?_
      rw [List.getElem?_map, Option.map_eq_some_iff] at hx
      obtain ⟨y, hy, rfl⟩ := hx
      exact v0 (hv i y v hy hv')
  · exact v0 hx
theorem renSs_at : ∀ {ys xs : List Slot}, renSs π ys = some xs → xs.length = ys.length ∧ ∀ (i : Nat) (y : Slot), ys[i]? = some y → ∃ x, xs[i]? = some x ∧ renS π y = some x
  | [], xs, h => by simp [renSs] at h; subst h; exact ⟨rfl, fun i y h => by simp at h⟩
  | y :: ys, xs, h => by
    unfold renSs at h
    split at h
    · rename_i x xs' h1 h2
      cases h
      obtain ⟨k1, k2⟩ := renSs_at h2
      refine ⟨by simp [k1], fun i y' hy => ?_⟩
      match i with
      | 0 => simp at hy; subst hy; exact ⟨x, rfl, h1⟩
      | i + 1 => simpa using k2 i y' (by simpa using hy)
    · cases h
theorem laters_at : ∀ {xs ys : List Slot}, laters xs ys → xs.length ≤ ys.length ∧ ∀ (i : Nat) (x : Slot), xs[i]? = some x → ∃ y, ys[i]? = some y ∧ Later x y
  | [], ys, _ => ⟨Nat.zero_le _, fun i x h => by simp at h⟩
  | x :: xs, [], h => h.elim
  | x :: xs, y :: ys, h => by
    obtain ⟨k1, k2⟩ := laters_at h.2
    refine ⟨by simp; omega, fun i x' hx => ?_⟩
    match i with
    | 0 => simp at hx; subst hx; exact ⟨y, rfl, h.1⟩
    | i + 1 => simpa using k2 i x' (by simpa using hx)
end
end Go.Proofs.Ytojhjcgalmaljaa

/-
  Calls that turn slots: what the caller knows behind them. Plain lemmas, about no function of the program.
  Conditions: those typed in each theorem.
-/
namespace Go.Proofs.Ytojhjcgalmaljaa
open Go.RowKit Go.ChangeShapes Go.WideShapes
set_option linter.unusedVariables false

section
variable {P : Program} {w0 : Base} {w w' : World} {φ φ' φ'' : Hdrs} {σ σ' : St} {a : Act} {sl sl' sl'' : List Slot} {Fs Fs' : List (List Nat)} {π : List Nat} {G G' : Nat → Prop}
theorem later_back {x y z u : Slot} (h : SameS x y) (k : Later y z) (r : renS π z = some u) : Later x u := by
  rcases renS_kind r with ⟨rfl, rfl⟩ | hk
  · cases x <;> first | trivial | (cases y <;> exact h.elim)
  · cases x <;> cases y <;> first | exact h.elim | skip
    · cases z <;> first | exact k.elim | skip
      · cases u <;> exact hk.elim
      · cases u <;> first | exact hk.elim | skip
        obtain ⟨_, rfl⟩ := h
        obtain ⟨_, rfl⟩ := hk
        exact k
    · cases z <;> first | exact k.elim | skip
      · cases u <;> exact hk.elim
      · cases u <;> first | exact hk.elim | trivial
theorem lives_at : ∀ {ys : List Slot}, lives ys → ∀ y ∈ ys, y.live
  | [], _, y, h => by simp at h
  | x :: xs, h, y, hy => by
    rcases List.mem_cons.1 hy with rfl | hy
    · exact h.1
    · exact lives_at h.2 y hy
/-- A callee's state afterwards, put back among the caller's slots. -/
theorem back_turn (hst : w0.st = false) (hm : MemR P w0 φ sl w Fs) (hn : π.Nodup) {slc slc' : List Slot} (hs : leSlots true sl π π slc) (hlv : lives slc) {φ' : Hdrs} {Fc' : List (List Nat)} {R : Nat → Prop}
    (hR : ∀ b, R b ↔ (good w0.R φ sl w b ∨ b ∈ (List.zipWith cutF slc (keepH π Fs [])).flatten ∨ w.heap.size ≤ b))
    {B : Base} (hBw : B.w = w) (hBT : B.T = top (keepH π φ (none, 0)) slc) (hBB : ∀ b, B.B b ↔ b ∈ (List.zipWith cutF slc (keepH π Fs [])).flatten) (hBH : B.H = keepH π φ (none, 0)) (hBR : B.R = R)
    (hmc : MemR P B φ' slc' w' Fc') (hlat : laters slc slc') {ys : List Slot} (hys : renSs (π ++ List.range' sl.length (slc'.length - π.length)) slc' = some ys) :
    ∃ φ'', Turn P w0 φ sl w φ'' (setAll sl π (ys.take π.length) ++ ys.drop π.length) w' ∧ Emb (π ++ List.range' sl.length (slc'.length - π.length)) φ' slc' φ'' (setAll sl π (ys.take π.length) ++ ys.drop π.length) ∧
      ∀ b, good R φ' slc' w' b → good w0.R φ'' (setAll sl π (ys.take π.length) ++ ys.drop π.length) w' b := by
  obtain ⟨s1, s2⟩ := leSlots_at hs
  obtain ⟨y1, y2⟩ := renSs_at hys
  obtain ⟨l1, l2⟩ := laters_at hlat
  have hkl : ∀ k ∈ π, k < sl.length := fun k hk => by
    obtain ⟨i, hi, rfl⟩ := List.mem_iff_getElem.1 hk
    obtain ⟨x, hx, _⟩ := s2 i _ _ (List.getElem?_eq_getElem hi) (List.getElem?_eq_getElem (by omega))
    exact (List.getElem?_eq_some_iff.1 hx).1
  obtain ⟨hg, hl, _⟩ := le_core (st := true) (w0 := { w0 with st := true, rn := by simp }) (G := fun _ => True) rfl ⟨hm.only, hm.tops, hm.flen, hm.Flen, hm.nd, hm.ge, hm.pin, hm.sr⟩ hn hs (fun _ _ => trivial) (by simp)
  have hpl : π.length ≤ slc'.length := by omega
  have htk : (ys.take π.length).length = π.length := by simp; omega
  have hFc' := hmc.Flen
  have hφc' := hmc.flen
  -- names
  have hname : ∀ {i k : Nat}, (π ++ List.range' sl.length (slc'.length - π.length))[i]? = some k → (i < π.length ∧ π[i]? = some k) ∨ (π.length ≤ i ∧ i < slc'.length ∧ k = sl.length + (i - π.length)) := by
    intro i k h
    by_cases hi : i < π.length
    · rw [List.getElem?_append_left hi] at h; exact .inl ⟨hi, h⟩
    · rw [List.getElem?_append_right (by omega)] at h
      have hlt := (List.getElem?_eq_some_iff.1 h).1
      rw [List.length_range'] at hlt
      rw [List.getElem?_range' hlt] at h
      cases h
      exact .inr ⟨by omega, by omega, by omega⟩
  let sl2 := setAll sl π (ys.take π.length) ++ ys.drop π.length
  let φ2 := φ ++ φ'.drop π.length
  let Fs2 := setAll Fs π (Fc'.take π.length) ++ Fc'.drop π.length
  have hsl2 : sl2 = setAll sl π (ys.take π.length) ++ ys.drop π.length := rfl
  -- what lies where
  have atOld : ∀ {j : Nat}, j ∉ π → j < sl.length → sl2[j]? = sl[j]? ∧ φ2[j]? = φ[j]? ∧ Fs2[j]? = Fs[j]? := by
    intro j hj hlt
    refine ⟨?_, ?_, ?_⟩
    · show (setAll sl π (ys.take π.length) ++ ys.drop π.length)[j]? = _
      rw [List.getElem?_append_left (by rw [setAll_len]; exact hlt), setAll_other _ _ _ hj]
    · show (φ ++ φ'.drop π.length)[j]? = _
      rw [List.getElem?_append_left (by rw [hm.flen]; exact hlt)]
    · show (setAll Fs π (Fc'.take π.length) ++ Fc'.drop π.length)[j]? = _
      rw [List.getElem?_append_left (by rw [setAll_len, hm.Flen]; exact hlt), setAll_other _ _ _ hj]
  have atKept : ∀ {i k : Nat}, π[i]? = some k → sl2[k]? = ys[i]? ∧ φ2[k]? = φ'[i]? ∧ Fs2[k]? = Fc'[i]? := by
    intro i k hi
    have hk := hkl k (List.mem_of_getElem? hi)
    have hil := (List.getElem?_eq_some_iff.1 hi).1
    refine ⟨?_, ?_, ?_⟩
    · show (setAll sl π (ys.take π.length) ++ ys.drop π.length)[k]? = _
      rw [List.getElem?_append_left (by rw [setAll_len]; exact hk), setAll_at π sl _ hn hkl htk.symm hi, List.getElem?_take, if_pos hil]
    · show (φ ++ φ'.drop π.length)[k]? = _
      rw [List.getElem?_append_left (by rw [hm.flen]; exact hk)]
      obtain ⟨x, y, h, _, _, k3, k4, _⟩ := hg.at_ i k hi
      have := (hmc.pin i h (by rw [hBH]; exact k4)).1
      rw [k3, this]
    · show (setAll Fs π (Fc'.take π.length) ++ Fc'.drop π.length)[k]? = _
      rw [List.getElem?_append_left (by rw [setAll_len, hm.Flen]; exact hk), setAll_at π Fs _ hn (fun k hk => by rw [hm.Flen]; exact hkl k hk) (by simp; omega) hi, List.getElem?_take, if_pos hil]
  have atNew : ∀ {i : Nat}, π.length ≤ i → sl2[sl.length + (i - π.length)]? = ys[i]? ∧ φ2[sl.length + (i - π.length)]? = φ'[i]? ∧ Fs2[sl.length + (i - π.length)]? = Fc'[i]? := by
    intro i hi
    refine ⟨?_, ?_, ?_⟩
    · show (setAll sl π (ys.take π.length) ++ ys.drop π.length)[_]? = _
      rw [List.getElem?_append_right (by rw [setAll_len]; omega), setAll_len, List.getElem?_drop]
      congr 1; omega
    · show (φ ++ φ'.drop π.length)[_]? = _
      rw [List.getElem?_append_right (by rw [hm.flen]; omega), hm.flen, List.getElem?_drop]
      congr 1; omega
    · show (setAll Fs π (Fc'.take π.length) ++ Fc'.drop π.length)[_]? = _
      rw [List.getElem?_append_right (by rw [setAll_len, hm.Flen]; omega), setAll_len, hm.Flen, List.getElem?_drop]
      congr 1; omega
  have atMid : ∀ {i k : Nat}, (π ++ List.range' sl.length (slc'.length - π.length))[i]? = some k → sl2[k]? = ys[i]? ∧ φ2[k]? = φ'[i]? ∧ Fs2[k]? = Fc'[i]? := by
    intro i k h
    rcases hname h with ⟨_, h⟩ | ⟨h1, _, rfl⟩
    · exact atKept h
    · exact atNew h1
  have hlen2 : sl2.length = sl.length + (slc'.length - π.length) := by
    show (setAll sl π (ys.take π.length) ++ ys.drop π.length).length = _
    rw [List.length_append, setAll_len, List.length_drop, y1]
  have split : ∀ {j : Nat}, j < sl2.length → (j ∉ π ∧ j < sl.length) ∨ ∃ i, (π ++ List.range' sl.length (slc'.length - π.length))[i]? = some j ∧ i < slc'.length := by
    intro j hj
    by_cases h1 : j < sl.length
    · by_cases h2 : j ∈ π
      · obtain ⟨i, hi, rfl⟩ := List.mem_iff_getElem.1 h2
        exact .inr ⟨i, by rw [List.getElem?_append_left hi]; exact List.getElem?_eq_getElem hi, by omega⟩
      · exact .inl ⟨h2, h1⟩
    · refine .inr ⟨π.length + (j - sl.length), ?_, by omega⟩
      rw [List.getElem?_append_right (by omega), show π.length + (j - sl.length) - π.length = j - sl.length by omega, List.getElem?_range' (by omega)]
      congr 1; omega
  have hemb : Emb (π ++ List.range' sl.length (slc'.length - π.length)) φ' slc' φ2 sl2 := by
    intro i k hi
    obtain ⟨k1, k2, k3⟩ := atMid hi
    have hil : i < slc'.length := by rcases hname hi with ⟨h, _⟩ | ⟨_, h, _⟩ <;> omega
    obtain ⟨x, hx, hr⟩ := y2 i _ (List.getElem?_eq_getElem hil)
    have hh : φ'[i]? = some (φ'[i]'(by omega)) := List.getElem?_eq_getElem _
    exact ⟨_, x, _, List.getElem?_eq_getElem hil, by rw [k1]; exact hx, hr, hh, by rw [k2]; exact hh⟩
  -- heads
  have htc : ∀ b, top (keepH π φ (none, 0)) slc b → ∃ (k : Nat) (F : List Nat), k ∈ π ∧ Fs[k]? = some F ∧ b ∈ F := by
    intro b hb
    obtain ⟨k, x, c, k1, k2, k3, k4⟩ := gc_top hg hb
    obtain ⟨hd, F, h1, h2, h3⟩ := hm.at_ k2
    rw [k4] at h1
    cases h1
    exact ⟨k, F, k1, h2, h3.head k3⟩
  have htc2 : ∀ b, top (keepH π φ (none, 0)) slc b → top φ sl b := by
    intro b hb
    obtain ⟨k, x, c, k1, k2, k3, k4⟩ := gc_top hg hb
    exact ⟨k, x, c, k2, k3, k4⟩
  have top2 : ∀ b, top φ2 sl2 b → (∃ (j : Nat) (x : Slot) (c : Nat), j ∉ π ∧ sl[j]? = some x ∧ x.live ∧ φ[j]? = some (some b, c)) ∨ top φ' slc' b := by
    rintro b ⟨j, x, c, h1, h2, h3⟩
    rcases split (List.getElem?_eq_some_iff.1 h1).1 with ⟨k1, k2⟩ | ⟨i, k1, k2⟩
    · obtain ⟨q1, q2, _⟩ := atOld k1 k2
      exact .inl ⟨j, x, c, k1, by rw [← q1]; exact h1, h2, by rw [← q2]; exact h3⟩
    · obtain ⟨y, x', h, q1, q2, q3, q4, q5⟩ := hemb i j k1
      rw [h1] at q2
      cases q2
      rw [h3] at q5
      cases q5
      rcases renS_kind q3 with ⟨_, rfl⟩ | hk
      · exact h2.elim
      · exact .inr ⟨i, y, c, q1, hk.live.1, q4⟩
  have topc : ∀ b, top φ' slc' b → top (keepH π φ (none, 0)) slc b ∨ w.heap.size ≤ b := by
    intro b hb
    have := hmc.tops b hb
    rw [hBT, hBw] at this
    exact this
  have cnt_le : ∀ q, cnt q (List.zipWith cutF slc (keepH π Fs [])) ≤ (ofSlots Fs π).count q := by
    intro q
    have e : cnt q (keepH π Fs []) = (ofSlots Fs π).count q := rfl
    rw [← e]
    exact cnt_cut q _ _
  have hFl : ∀ k ∈ π, k < Fs.length := fun k hk => by rw [hm.Flen]; exact hkl k hk
  have cnt2 : ∀ q, cnt q Fs2 + (ofSlots Fs π).count q = cnt q Fs + cnt q Fc' := by
    intro q
    have h1 := cnt_setAll q π Fs (Fc'.take π.length) hn hFl (by simp; omega)
    have h2 : cnt q (Fc'.take π.length) + cnt q (Fc'.drop π.length) = cnt q Fc' := by
      have : cnt q (Fc'.take π.length ++ Fc'.drop π.length) = cnt q Fc' := by rw [List.take_append_drop]
      simp only [cnt, List.flatten_append, List.count_append] at this ⊢
      exact this
    have h3 : cnt q Fs2 = cnt q (setAll Fs π (Fc'.take π.length)) + cnt q (Fc'.drop π.length) := by
      show cnt q (setAll Fs π (Fc'.take π.length) ++ Fc'.drop π.length) = _
      simp only [cnt, List.flatten_append, List.count_append]
    omega
  have cntk : ∀ q, (ofSlots Fs π).count q ≤ cnt q Fs := fun q => by have := cnt_killF q hn hFl; omega
  have one : ∀ q, cnt q Fs ≤ 1 := fun q => List.nodup_iff_count.1 hm.nd q
  have onec : ∀ q, cnt q Fc' ≤ 1 := fun q => List.nodup_iff_count.1 hmc.nd q
  have hge : ∀ q ∈ Fc'.flatten, q ∈ (List.zipWith cutF slc (keepH π Fs [])).flatten ∨ w.heap.size ≤ q := by
    intro q hq
    rcases hmc.ge q hq with h | h
    · exact .inl ((hBB q).1 h)
    · rw [hBw] at h; exact .inr h
  have big : ∀ q, w.heap.size ≤ q → cnt q Fs = 0 := fun q hq => List.count_eq_zero.2 fun h => by have := hm.lt q h; omega
  have nd2 : Fs2.flatten.Nodup := by
    rw [List.nodup_iff_count]
    intro q
    have h1 := cnt2 q
    have h2 := one q
    have h3 := onec q
    have h4 := cntk q
    simp only [cnt] at h1 h2 h3 h4
    by_cases hq : q ∈ Fc'.flatten
    · rcases hge q hq with h | h
      · have h5 := cnt_le q
        have h6 := List.count_pos_iff.2 h
        simp only [cnt] at h5
        omega
      · have h5 := big q h
        simp only [cnt] at h5
        omega
    · have h5 : Fc'.flatten.count q = 0 := List.count_eq_zero.2 hq
      omega
  have hkept : Kept B.T B.w w' := hmc.only
  rw [hBT, hBw] at hkept
  have htop_old : ∀ {b : Nat}, w0.T b ∨ w0.w.heap.size ≤ b ∨ ¬ top φ sl b := by
    intro b
    by_cases h : top φ sl b
    · rcases hm.tops b h with h | h
      · exact .inl h
      · exact .inr (.inl h)
    · exact .inr (.inr h)
  have only2 : Kept w0.T w0.w w' := by
    have h0 := hm.only
    refine ⟨hkept.os.trans h0.os, hkept.tape.trans h0.tape, hkept.output.trans h0.output, Nat.le_trans h0.size hkept.size, fun k hk hT => ?_⟩
    have hkw : k < w.heap.size := Nat.lt_of_lt_of_le hk h0.size
    rw [hkept.block k hkw, h0.block k hk hT]
    intro ht
    rcases hm.tops k (htc2 k ht) with h | h
    · exact hT h
    · omega
  -- what is good stays good
  have disj : ∀ {j k : Nat} {F F2 : List Nat} {b : Nat}, j ∉ π → k ∈ π → Fs[j]? = some F → Fs[k]? = some F2 → b ∈ F → b ∈ F2 → False := fun hj hk h1 h2 hb hb2 => flat_disj hm.nd h1 h2 (fun e => hj (e ▸ hk)) _ hb hb2
  have hk2 : ∀ b, good w0.R φ sl w b → good w0.R φ2 sl2 w' b ∧ ∀ o, w'.cell? ⟨b, o, none⟩ = w.cell? ⟨b, o, none⟩ := by
    rintro b ⟨h1, h2, h3⟩
    refine ⟨⟨Nat.lt_of_lt_of_le h1 hkept.size, fun ht => ?_, h3⟩, fun o => ?_⟩
    · rcases top2 b ht with ⟨j, x, c, _, q2, q3, q4⟩ | ht
      · exact h2 ⟨j, x, c, q2, q3, q4⟩
      · rcases topc b ht with h | h
        · exact h2 (htc2 b h)
        · omega
    · have := hkept.block b h1 (fun ht => h2 (htc2 b ht))
      simp only [World.cell?, this]
  have hs2 : ∀ (s : Nat) (x : Slot), sl[s]? = some x → ∃ x', sl2[s]? = some x' ∧ Later x x' := by
    intro s x hx
    have hsl := (List.getElem?_eq_some_iff.1 hx).1
    by_cases hsp : s ∈ π
    · obtain ⟨i, hi, rfl⟩ := List.mem_iff_getElem.1 hsp
      have hpi : π[i]? = some π[i] := List.getElem?_eq_getElem hi
      obtain ⟨x', y, h, k1, k2, k3, k4, k5⟩ := hg.at_ i _ hpi
      rw [hx] at k1
      cases k1
      obtain ⟨q1, _, _⟩ := atKept hpi
      obtain ⟨z, z1, z2⟩ := l2 i y k2
      obtain ⟨u, u1, u2⟩ := y2 i z z1
      rcases k5 with rfl | k5
      · exact (lives_at hlv _ (List.mem_of_getElem? k2)).elim
      · exact ⟨u, by rw [q1]; exact u1, later_back k5 z2 u2⟩
    · obtain ⟨q1, _, _⟩ := atOld hsp hsl
      exact ⟨x, by rw [q1]; exact hx, Later.refl x⟩
  have hgd : ∀ b, good R φ' slc' w' b → good w0.R φ2 sl2 w' b := by
    rintro b ⟨h1, h2, h3⟩
    have hnt : ∀ {j : Nat} {x : Slot} {c : Nat}, j ∉ π → sl[j]? = some x → x.live → φ[j]? = some (some b, c) → False := by
      intro j x c hj hx hxl hp
      obtain ⟨hd, F, k1, k2, k3⟩ := hm.at_ hx
      rw [hp] at k1
      cases k1
      have hbF := k3.head hxl
      rcases (hR b).1 h3 with h | h | h
      · exact h.2.1 ⟨j, x, c, hx, hxl, hp⟩
      · have h4 := cnt_le b
        have h5 := List.count_pos_iff.2 h
        have h6 : 0 < (ofSlots Fs π).count b := by simp only [cnt] at h4; omega
        obtain ⟨F2, hF2, hb2⟩ := List.mem_flatten.1 (List.count_pos_iff.1 h6)
        obtain ⟨k, hk, rfl⟩ := List.mem_map.1 hF2
        have hk3 : Fs[k]? = some (Fs[k]'(hFl k hk)) := List.getElem?_eq_getElem _
        rw [hk3] at hb2
        exact disj hj hk k2 hk3 hbF hb2
      · have := k3.lt b hbF
        omega
    refine ⟨h1, fun ht => ?_, ?_⟩
    · rcases top2 b ht with ⟨j, x, c, q1, q2, q3, q4⟩ | ht
      · exact hnt q1 q2 q3 q4
      · exact h2 ht
    · rcases (hR b).1 h3 with h | h | h
      · exact h.2.2
      · have h4 := cnt_le b
        have h5 := List.count_pos_iff.2 h
        have h7 := cntk b
        refine hm.rd hst (List.count_pos_iff.1 ?_)
        simp only [cnt] at h4 h7
        omega
      · exact w0.rn hst b (.inr (Nat.le_trans hm.only.size h))
  have hp2 : ∀ (s : Nat) (h : Option Nat × Nat), φ[s]? = some h → sl[s]? ≠ some .unborn → φ2[s]? = some h := by
    intro s h hh _
    show (φ ++ φ'.drop π.length)[s]? = _
    rw [List.getElem?_append_left (List.getElem?_eq_some_iff.1 hh).1]
    exact hh
  refine ⟨φ2, ⟨⟨Fs2, only2, fun b hb => ?_, ?_, ?_, nd2, fun q hq => ?_, fun i h hi => ?_, fun s x hd F h1 h2 h3 => ?_⟩, hk2, hs2, hp2⟩, hemb, hgd⟩
  · rcases top2 b hb with ⟨j, x, c, _, q2, q3, q4⟩ | ht
    · exact hm.tops b ⟨j, x, c, q2, q3, q4⟩
    · rcases topc b ht with h | h
      · exact hm.tops b (htc2 b h)
      · exact .inr (Nat.le_trans hm.only.size h)
  · show (φ ++ φ'.drop π.length).length = (setAll sl π (ys.take π.length) ++ ys.drop π.length).length
    rw [List.length_append, List.length_append, setAll_len, List.length_drop, List.length_drop, hm.flen, y1, hφc']
  · show (setAll Fs π (Fc'.take π.length) ++ Fc'.drop π.length).length = (setAll sl π (ys.take π.length) ++ ys.drop π.length).length
    rw [List.length_append, List.length_append, setAll_len, setAll_len, List.length_drop, List.length_drop, hm.Flen, y1, hFc']
  · have h1 := cnt2 q
    have h2 := List.count_pos_iff.2 hq
    have h4 := cntk q
    simp only [cnt] at h1 h4
    by_cases hqc : q ∈ Fc'.flatten
    · rcases hge q hqc with h | h
      · have h5 := cnt_le q
        have h6 := List.count_pos_iff.2 h
        simp only [cnt] at h5
        exact hm.ge q (List.count_pos_iff.1 (by omega))
      · exact .inr (Nat.le_trans hm.only.size h)
    · have h5 : Fc'.flatten.count q = 0 := List.count_eq_zero.2 hqc
      exact hm.ge q (List.count_pos_iff.1 (by omega))
  · obtain ⟨p1, p2⟩ := hm.pin i h hi
    refine ⟨hp2 i h p1 p2, fun hu => ?_⟩
    have hil : i < sl.length := by rw [← hm.flen]; exact (List.getElem?_eq_some_iff.1 p1).1
    obtain ⟨x', k1, k2⟩ := hs2 i _ (List.getElem?_eq_getElem hil)
    rw [k1] at hu
    cases hu
    exact k2.unborn (fun e => p2 (by rw [List.getElem?_eq_getElem hil, e])) rfl
  · rcases split (List.getElem?_eq_some_iff.1 h1).1 with ⟨k1, k2⟩ | ⟨i, k1, k2⟩
    · obtain ⟨q1, q2, q3⟩ := atOld k1 k2
      have h1' : sl[s]? = some x := by rw [← q1]; exact h1
      have h3' : Fs[s]? = some F := by rw [← q3]; exact h3
      have hsr := hm.sr s x hd F h1' (by rw [← q2]; exact h2) h3'
      refine hsr.mono (fun g hg => ?_) hk2 hs2 hp2
      refine hkept.block g (hsr.lt g hg) fun ht => ?_
      obtain ⟨k, F2, e1, e2, e3⟩ := htc g ht
      exact disj k1 e1 h3' e2 hg e3
    · obtain ⟨y, x', h, q1, q2, q3, q4, q5⟩ := hemb i s k1
      obtain ⟨_, _, r3⟩ := atMid k1
      rw [h1] at q2
      cases q2
      rw [h2] at q5
      cases q5
      have h3' : Fc'[i]? = some F := by rw [← r3]; exact h3
      have hsr := hmc.sr i y _ F q1 q4 h3'
      rw [hBR] at hsr
      exact pushS hemb hgd q3 hsr
/-- A call that turns slots. -/
theorem callT_sound {m : Mode} (hst : w0.st = m.st) (hr : Rel P w0 φ σ a w) {f : FuncId} {xs : List V} {K : V → List Slot → Prop} (h : CallT P m σ.slots f xs K) {vs : List Value} (hl : vs.length = xs.length)
    (hv : ∀ (i : Nat) (x : V) (v : Value), xs[i]? = some x → vs[i]? = some v → VR w (good w0.R φ σ.slots w) φ σ.slots x v) :
    callable P f = true ∧ Calls P f vs.toArray w fun e w' => ∃ v φ' sl' z, e = .returned v ∧ Turn P w0 φ σ.slots w φ' sl' w' ∧ VR w' (good w0.R φ' sl' w') φ' sl' z v ∧ K z sl' := by
  obtain ⟨_, h0, ks, π, args, slc, r, slc', ⟨hcall, hlat, hcon⟩, hlv, hks, hka, hn, hsl, hta, r', ys, hb1, hb2, hK⟩ := h
  replace hst := hst.trans h0
  obtain ⟨Fs, hm⟩ := hr.mem
  have hka' := arrsOk_at hka
  obtain ⟨t1, t2, t3⟩ := freeze_turn hst hm hks (fun k hk => by obtain ⟨_, _, _, h⟩ := hka' k hk; exact ⟨_, h, trivial⟩)
  obtain ⟨Fs1, hm1⟩ := t1.1
  -- the callee's frame
  let R : Nat → Prop := fun b => good w0.R φ (kill ks σ.slots) w b ∨ b ∈ (List.zipWith cutF slc (keepH π Fs1 [])).flatten ∨ w.heap.size ≤ b
  have hG0 : ∀ {φ' : Hdrs}, Gc π φ (kill ks σ.slots) φ' slc → ∀ b, good w0.R φ (kill ks σ.slots) w b → good R φ' slc w b := by
    intro φ' hg b hb
    refine ⟨hb.1, fun ht => ?_, .inl hb⟩
    obtain ⟨k, x, c, _, k2, k3, k4⟩ := gc_top hg ht
    exact hb.2.1 ⟨k, x, c, k2, k3, k4⟩
  have hm1' : MemR P { w0 with st := true, rn := by simp } φ (kill ks σ.slots) w Fs1 := ⟨hm1.only, hm1.tops, hm1.flen, hm1.Flen, hm1.nd, hm1.ge, hm1.pin, hm1.sr⟩
  obtain ⟨hg, _, _⟩ := le_core (G := fun _ => True) rfl hm1' hn hsl (fun _ _ => trivial) (by simp)
  obtain ⟨_, hls, hval⟩ := le_core (G := good R (keepH π φ (none, 0)) slc w) rfl hm1' hn hsl (hG0 hg) (by simp)
  obtain ⟨s1, s2⟩ := leSlots_at hsl
  have hkl : ∀ k ∈ π, k < Fs1.length := fun k hk => by
    obtain ⟨i, hi, rfl⟩ := List.mem_iff_getElem.1 hk
    obtain ⟨x, hx, _⟩ := s2 i _ _ (List.getElem?_eq_getElem hi) (List.getElem?_eq_getElem (by omega))
    rw [hm1.Flen]
    exact (List.getElem?_eq_some_iff.1 hx).1
  have hcnt : ∀ q, cnt q (List.zipWith cutF slc (keepH π Fs1 [])) ≤ cnt q Fs1 := fun q => Nat.le_trans (cnt_cut q _ _) (cnt_keep q hn hkl)
  have hmc : MemR P ⟨w, top (keepH π φ (none, 0)) slc, (· ∈ (List.zipWith cutF slc (keepH π Fs1 [])).flatten), keepH π φ (none, 0), R, false, fun _ b hb => by rcases hb with h | h <;> first | exact .inr (.inl h) | exact .inr (.inr h)⟩ (keepH π φ (none, 0)) slc w (List.zipWith cutF slc (keepH π Fs1 [])) := by
    refine ⟨Kept.refl _ _, fun b hb => .inl hb, hls.flen, hls.Flen, nodup_cnt hm1.nd hcnt, fun q hq => .inl hq, fun i h hi => ⟨hi, fun hu => ?_⟩, hls.sr⟩
    exact lives_at hlv _ (List.mem_of_getElem? hu)
  obtain ⟨ta1, ta2⟩ := leTmps_at hta
  refine ⟨hcall, ?_⟩
  have hargs : ∀ (i : Nat) (y : V) (v : Value), args[i]? = some y → vs[i]? = some v → VR w (good R (keepH π φ (none, 0)) slc w) (keepH π φ (none, 0)) slc y v := by
    intro i y v hy hv'
    obtain ⟨x, hx, hle⟩ := ta2 i y hy
    rw [List.getElem?_map, Option.map_eq_some_iff] at hx
    obtain ⟨x0, hx0, rfl⟩ := hx
    exact hval _ y v hle (view_vr hm hka' t2 t3 t1 (hv i x0 v hx0 hv'))
  refine (hcon w (keepH π φ (none, 0)) (List.zipWith cutF slc (keepH π Fs1 [])) R (fun _ b hb => by rcases hb with h | h <;> first | exact .inr (.inl h) | exact .inr (.inr h)) vs hmc (by rw [← ta1]; simpa using hl) hargs).mono ?_
  rintro e w' ⟨v, φ', Fs', rfl, hmc', hvr⟩
  obtain ⟨φ'', q1, q2, q3⟩ := back_turn hst hm1 hn hsl hlv (R := R) (fun b => Iff.rfl) rfl rfl (fun b => Iff.rfl) rfl rfl hmc' hlat hb2
  exact ⟨v, φ'', _, r', rfl, t1.trans hm.flen q1, pushT q2 q3 hb1 hvr, hK⟩
end
end Go.Proofs.Ytojhjcgalmaljaa

/-
  Calls that use up what their arguments own (marks over a law's arguments), where nothing of a slot is read as data. Plain lemmas, about no function of the program.
  Conditions: those typed in each theorem.
-/
namespace Go.Proofs.Ytojhjcgalmaljaa
open Go.RowKit Go.ChangeShapes Go.WideShapes
set_option linter.unusedVariables false
section
variable {P : Program} {w0 : Base} {w w' : World} {φ φ' : Hdrs} {σ : St} {a : Act} {sl sl' : List Slot} {Fs Fs' : List (List Nat)}
theorem ofSlots_append (ks ks' : List Nat) : ofSlots Fs (ks ++ ks') = ofSlots Fs ks ++ ofSlots Fs ks' := by simp [ofSlots]
theorem give1_sound (hm : MemR P w0 φ sl w Fs) {v : V} {x : X} {ks : List Nat} {u : Value} (h : give1 sl v = some (x, ks)) (hv : VR w (good w0.R φ sl w) φ sl v u) : XOwn P w x u (ofSlots Fs ks) ∧ ks.Nodup ∧ ∀ k ∈ ks, k < Fs.length := by
  have lt : ∀ {ks : List Nat}, (∀ k ∈ ks, ∃ t es, sl[k]? = some (.arr t true es)) → ∀ k ∈ ks, k < Fs.length := fun h k hk => by
    obtain ⟨_, _, h1⟩ := h k hk
    rw [hm.Flen]
    exact (List.getElem?_eq_some_iff.1 h1).1
  unfold give1 at h
  split at h
  · rw [Option.map_eq_some_iff] at h
    obtain ⟨⟨ds, ks'⟩, h1, h2⟩ := h
    cases h2
    cases hv with
    | agg hl hone hv =>
      rename_i vs us
      obtain ⟨k1, k2, k3⟩ := takeC_sound hm h1 (vs := us) ⟨hl, fun i x v hx hv' => ⟨hv i x v hx hv', hone v (List.mem_of_getElem? hv')⟩⟩
      exact ⟨.agg k1, k2, lt k3⟩
  · split at h
    · rename_i h1
      cases h
      have hc : v.cell = true := by
        cases v with
        | any => simp [takeC] at h1
        | tup => simp [takeC] at h1
        | agg vs => simp [takeC] at h1
        | _ => rfl
      obtain ⟨k1, k2, k3⟩ := takeC_sound hm h1 (vs := [u]) ⟨rfl, fun i x v' hx hv' => by
        match i with
        | 0 => simp at hx hv'; subst hx hv'; exact ⟨hv, hv.one hc⟩
        | i + 1 => simp at hx⟩
      exact ⟨.d k1, k2, lt k3⟩
    · cases h
theorem give1s_sound (hm : MemR P w0 φ sl w Fs) : ∀ {vs : List V} {xs : List X} {ks : List Nat} {us : List Value}, give1s sl vs = some (xs, ks) → us.length = vs.length → (∀ (i : Nat) (v : V) (u : Value), vs[i]? = some v → us[i]? = some u → VR w (good w0.R φ sl w) φ sl v u) →
    ∃ Gs : List (List Nat), us.length = xs.length ∧ Gs.length = xs.length ∧ (∀ (i : Nat) (x : X) (u : Value) (F : List Nat), xs[i]? = some x → us[i]? = some u → Gs[i]? = some F → XOwn P w x u F) ∧ Gs.flatten = ofSlots Fs ks ∧ ks.Nodup ∧ ∀ k ∈ ks, k < Fs.length
  | [], xs, ks, us, h, hl, _ => by
    simp [give1s] at h
    obtain ⟨rfl, rfl⟩ := h
    exact ⟨[], hl, rfl, fun i x u F hx => by simp at hx, by simp [ofSlots], by simp, by simp⟩
  | v :: vs, xs, ks, [], h, hl, _ => by simp at hl
  | v :: vs, xs, ks, u :: us, h, hl, hv => by
    unfold give1s at h
    split at h
    · rename_i x k xs' ks' h1 h2
      split at h
      · rename_i hd
        cases h
        obtain ⟨k1, k2, k3⟩ := give1_sound hm h1 (hv 0 v u rfl rfl)
        obtain ⟨Gs, j1, j2, j3, j4, j5, j6⟩ := give1s_sound hm h2 (us := us) (by simpa using hl) (fun i v u hx hu => hv (i + 1) v u (by simpa using hx) (by simpa using hu))
        refine ⟨ofSlots Fs k :: Gs, by simp [j1], by simp [j2], fun i y u' F hx hu hF => ?_, by rw [List.flatten_cons, j4, ofSlots_append], ?_, fun q hq => ?_⟩
        · match i with
          | 0 => simp at hx hu hF; subst hx hu hF; exact k1
          | i + 1 => exact j3 i y u' F (by simpa using hx) (by simpa using hu) (by simpa using hF)
        · rw [List.all_eq_true] at hd
          refine List.nodup_append.2 ⟨k2, j5, fun a ha b hb e => ?_⟩
          have := hd a ha
          subst e
          simp [hb] at this
        · rcases List.mem_append.1 hq with h | h
          · exact k3 q h
          · exact j6 q h
      · cases h
    · cases h
theorem good_mono2 {R : Nat → Prop} {S : List Nat} (hO : Only S w w') (hS : ∀ b ∈ S, ¬ good R φ sl w b) (hT : ∀ b, top φ' sl' b → w.heap.size ≤ b ∨ top φ sl b) :
    ∀ b, good R φ sl w b → good R φ' sl' w' b ∧ ∀ o, w'.cell? ⟨b, o, none⟩ = w.cell? ⟨b, o, none⟩ := by
  intro b hg
  have hb : b ∉ S := fun hb => hS b hb hg
  obtain ⟨h1, h2, hR⟩ := hg
  refine ⟨⟨Nat.lt_of_lt_of_le h1 hO.size, fun ht => ?_, hR⟩, fun o => ?_⟩
  · rcases hT b ht with h | h
    · omega
    · exact h2 h
  · have := hO.block b h1 hb
    simp only [World.cell?, this]
theorem MemR.turn2 (h : MemR P w0 φ sl w Fs) {S : List Nat} (hO : Only S w w') (hS : ∀ b ∈ S, ¬ good w0.R φ sl w b) (hS2 : ∀ b ∈ S, w0.T b ∨ w0.w.heap.size ≤ b) (hl : φ'.length = sl'.length) (hF : Fs'.length = sl'.length) (nd : Fs'.flatten.Nodup) (ge : ∀ g ∈ Fs'.flatten, w0.B g ∨ w0.w.heap.size ≤ g)
    (hs : ∀ (s : Nat) (x : Slot), sl[s]? = some x → ∃ x', sl'[s]? = some x' ∧ Later x x') (hp : ∀ (s : Nat) (h : Option Nat × Nat), φ[s]? = some h → sl[s]? ≠ some .unborn → φ'[s]? = some h) (hT : ∀ b, top φ' sl' b → w.heap.size ≤ b ∨ top φ sl b)
    (hn : ∀ (s : Nat) (x : Slot) (h : Option Nat × Nat) (F : List Nat), sl'[s]? = some x → φ'[s]? = some h → Fs'[s]? = some F → (sl[s]? = some x ∧ φ[s]? = some h ∧ Fs[s]? = some F ∧ ∀ b ∈ F, b ∉ S) ∨ SR P w' (good w0.R φ' sl' w') φ' sl' x h F) :
    Turn P w0 φ sl w φ' sl' w' := by
  refine ⟨⟨Fs', ?_⟩, good_mono2 hO hS hT, hs, hp⟩
  exact {
    only := h.only_step hO hS2
    tops := fun b hb => by
      rcases hT b hb with h' | h'
      · have := h.only.size; exact .inr (by omega)
      · exact h.tops b h'
    flen := hl
    Flen := hF
    nd := nd
    ge := ge
    pin := fun i hd hi => by
      obtain ⟨h1, h2⟩ := h.pin i hd hi
      refine ⟨hp i hd h1 h2, fun hu => ?_⟩
      have hl' : i < sl.length := by rw [← h.flen]; exact (List.getElem?_eq_some_iff.1 h1).1
      obtain ⟨x', k1, k2⟩ := hs i _ (List.getElem?_eq_getElem hl')
      rw [k1] at hu
      cases hu
      exact k2.unborn (fun e => h2 (by rw [List.getElem?_eq_getElem hl', e])) rfl
    sr := fun s x hd F h1 h2 h3 => by
      rcases hn s x hd F h1 h2 h3 with ⟨h4, h5, h6, h7⟩ | h4
      · have hsr := h.sr s x hd F h4 h5 h6
        exact hsr.mono (fun g hg => hO.block g (hsr.lt g hg) (h7 g hg)) (good_mono2 hO hS hT) hs hp
      · exact h4 }
theorem takeC_arr : ∀ {xs : List V} {ds : List D} {ks : List Nat}, takeC sl xs = some (ds, ks) → ∀ k ∈ ks, ∃ t es, sl[k]? = some (.arr t true es)
  | [], ds, ks, h => by
    simp [takeC] at h
    obtain ⟨-, rfl⟩ := h
    simp
  | x :: xs, ds, ks, h => by
    unfold takeC at h
    split at h
    · cases h
    rename_i ds' ks' h1
    have ih := takeC_arr h1
    split at h
    · cases h; exact ih
    · cases h; exact ih
    · cases h; exact ih
    · rename_i s
      split at h
      · rename_i t es hs
        split at h
        · cases h
        · cases h
          intro k hk
          rcases List.mem_cons.1 hk with rfl | hk
          · exact ⟨t, es, hs⟩
          · exact ih k hk
      · cases h
    · cases h
theorem give1_arr {v : V} {x : X} {ks : List Nat} (h : give1 sl v = some (x, ks)) : ∀ k ∈ ks, ∃ t es, sl[k]? = some (.arr t true es) := by
  unfold give1 at h
  split at h
  · rw [Option.map_eq_some_iff] at h
    obtain ⟨⟨ds, ks'⟩, h1, h2⟩ := h
    cases h2
    exact takeC_arr h1
  · split at h
    · rename_i h1
      cases h
      exact takeC_arr h1
    · cases h
theorem give1s_arr : ∀ {vs : List V} {xs : List X} {ks : List Nat}, give1s sl vs = some (xs, ks) → ∀ k ∈ ks, ∃ t es, sl[k]? = some (.arr t true es)
  | [], xs, ks, h => by
    simp [give1s] at h
    obtain ⟨-, rfl⟩ := h
    simp
  | v :: vs, xs, ks, h => by
    unfold give1s at h
    split at h
    · rename_i x k xs' ks' h1 h2
      split at h
      · cases h
        intro q hq
        rcases List.mem_append.1 hq with h | h
        · exact give1_arr h1 q h
        · exact give1s_arr h2 q h
      · cases h
    · cases h
/-- The slots that a call uses up die. -/
theorem callK_sound (hap : w0.Apart) (hm : MemR P w0 φ sl w Fs) {f : FuncId} {xs : List V} {ys : List X} {ks : List Nat} {n : Int} (hg : give1s sl xs = some (ys, ks)) (hc : ConK P f ys n) {vs : List Value} (hl : vs.length = xs.length)
    (hv : ∀ (i : Nat) (x : V) (v : Value), xs[i]? = some x → vs[i]? = some v → VR w (good w0.R φ sl w) φ sl x v) :
    callable P f = true ∧ Calls P f vs.toArray w fun e w' => e = .returned (.int .i64 n) ∧ Turn P w0 φ sl w φ (kill ks sl) w' := by
  obtain ⟨Gs, j1, j2, j3, j4, hks, hkF⟩ := give1s_sound hm hg hl hv
  have hkl : ∀ k ∈ ks, k < sl.length := fun k h => by rw [← hm.Flen]; exact hkF k h
  have hcnt : ∀ q, cnt q (killF ks Fs) ≤ cnt q Fs := fun q => by have := cnt_killF q hks hkF; omega
  have hin : ∀ q ∈ ofSlots Fs ks, q ∈ Fs.flatten := fun q hq => by
    have h1 := cnt_killF q hks hkF
    have h2 := List.count_pos_iff.2 hq
    exact List.count_pos_iff.1 (by simp only [cnt] at h1; omega)
  have hnd : Gs.flatten.Nodup := by
    rw [j4, List.nodup_iff_count]
    intro q
    have h1 := cnt_killF q hks hkF
    have h2 := List.nodup_iff_count.1 hm.nd q
    simp only [cnt] at h1
    omega
  refine ⟨hc.1, (hc.2 w vs Gs j1 j2 j3 hnd).mono ?_⟩
  rintro e w' ⟨rfl, hO⟩
  refine ⟨rfl, ?_⟩
  rw [j4] at hO
  have hge : ∀ b ∈ ofSlots Fs ks, w0.B b ∨ w0.w.heap.size ≤ b := fun b hb => hm.ge b (hin b hb)
  have old : ∀ {i : Nat} {x : Slot}, (kill ks sl)[i]? = some x → (i ∈ ks ∧ x = .dead) ∨ (i ∉ ks ∧ sl[i]? = some x) := by
    intro i x hx
    rw [kill_at] at hx
    by_cases h : i ∈ ks ∧ i < sl.length
    · rw [if_pos h] at hx; cases hx; exact .inl ⟨h.1, rfl⟩
    · rw [if_neg h] at hx
      exact .inr ⟨fun hi => h ⟨hi, hkl i hi⟩, hx⟩
  have hT : ∀ b, top φ (kill ks sl) b → top φ sl b := by
    rintro b ⟨s, x, c, h1, h2, h3⟩
    rcases old h1 with ⟨_, rfl⟩ | ⟨_, h1⟩
    · exact h2.elim
    · exact ⟨s, x, c, h1, h2, h3⟩
  have hlive : ∀ k ∈ ks, ∃ x, sl[k]? = some x ∧ x.live := fun k hk => by
    obtain ⟨t, es, h⟩ := give1s_arr hg k hk
    exact ⟨_, h, trivial⟩
  have hlt : ∀ (s : Nat) (x : Slot), sl[s]? = some x → ∃ x', (kill ks sl)[s]? = some x' ∧ Later x x' := by
    intro s x hx
    rw [kill_at]
    by_cases h : s ∈ ks ∧ s < sl.length
    · obtain ⟨x', h1, h2⟩ := hlive s h.1
      rw [hx] at h1
      cases h1
      exact ⟨.dead, by rw [if_pos h], by cases x <;> simp_all [Slot.live, Later]⟩
    · exact ⟨x, by rw [if_neg h]; exact hx, Later.refl x⟩
  refine hm.turn2 (Fs' := killF ks Fs) hO (fun b hb hgd => hap.no (hge b hb) hgd.2.2) (fun b hb => hap.old (hge b hb)) (by rw [kill_len, hm.flen]) (by rw [kill_len, killF_len, hm.Flen]) (nodup_cnt hm.nd hcnt) (fun q hq => hm.ge q (mem_cnt hcnt hq)) hlt (fun _ _ h _ => h) (fun b hb => .inr (hT b hb)) (fun s x h F q1 q2 q3 => ?_)
  rw [killF_at] at q3
  rcases old q1 with ⟨h1, rfl⟩ | ⟨h1, q1⟩
  · rw [if_pos ⟨h1, hkF s h1⟩] at q3
    cases q3
    exact .inr rfl
  · rw [if_neg (fun h => h1 h.1)] at q3
    refine .inl ⟨q1, q2, q3, fun b hb hb2 => ?_⟩
    unfold ofSlots at hb2
    obtain ⟨l, hl1, hl2⟩ := List.mem_flatten.1 hb2
    obtain ⟨k, hk, rfl⟩ := List.mem_map.1 hl1
    have hFk : Fs[k]? = some (Fs[k]'(hkF k hk)) := List.getElem?_eq_getElem _
    rw [hFk] at hl2
    exact flat_disj hm.nd q3 hFk (fun e => h1 (e ▸ hk)) b hb hl2
/-- A row is written over in place. -/
theorem callM_sound (hap : w0.Apart) (hm : MemR P w0 φ sl w Fs) {f : FuncId} {s : Nat} {t : TypeId} {es es' : List (List D)} {k n : Int} (hs : sl[s]? = some (.arr t true es)) (hc : ConM P f t es k n es') {v u : Value}
    (hv : VR w (good w0.R φ sl w) φ sl (.ref s) v) (hu : VR w (good w0.R φ sl w) φ sl (.d (.int .i64 k)) u) :
    callable P f = true ∧ Calls P f #[v, u] w fun e w' => e = .returned (.int .i64 n) ∧ Turn P w0 φ sl w φ (sl.set s (.arr t true es')) w' := by
  obtain ⟨h1, hlen, h2⟩ := hc
  refine ⟨h1, ?_⟩
  have hsl := (List.getElem?_eq_some_iff.1 hs).1
  obtain ⟨hd, F, k1, k2, k3⟩ := hm.at_ hs
  obtain ⟨A, c⟩ := hd
  have hu' : u = .int .i64 k := by
    cases hu with
    | d h => cases h; rfl
  have hv' : v = .slice (hdr A) es.length c := by
    cases hv with
    | ref q1 q2 =>
      rw [hs] at q1
      rw [k1] at q2
      cases q1
      cases q2
      rfl
    | gone q1 => rw [hs] at q1; cases q1
  subst hu' hv'
  have hFn : F.Nodup := by
    exact List.Pairwise.sublist (List.sublist_flatten_of_mem (List.mem_of_getElem? k2)) hm.nd
  refine (h2 w A c F k3 hFn).mono ?_
  rintro e w' ⟨rfl, hrow, hO⟩
  refine ⟨rfl, ?_⟩
  have hge : ∀ b ∈ F, w0.B b ∨ w0.w.heap.size ≤ b := fun b hb => hm.ge b (mem_flat k2 hb)
  have old : ∀ {i : Nat} {x : Slot}, (sl.set s (.arr t true es'))[i]? = some x → (i = s ∧ x = .arr t true es') ∨ (i ≠ s ∧ sl[i]? = some x) := by
    intro i x hx
    by_cases h : s = i
    · subst h
      rw [List.getElem?_set_self hsl] at hx
      cases hx
      exact .inl ⟨rfl, rfl⟩
    · rw [List.getElem?_set_ne h] at hx
      exact .inr ⟨fun e => h e.symm, hx⟩
  have hT : ∀ b, top φ (sl.set s (.arr t true es')) b → top φ sl b := by
    rintro b ⟨i, x, c', q1, q2, q3⟩
    rcases old q1 with ⟨rfl, rfl⟩ | ⟨_, q1⟩
    · exact ⟨i, _, c', hs, trivial, q3⟩
    · exact ⟨i, x, c', q1, q2, q3⟩
  have hlt : ∀ (i : Nat) (x : Slot), sl[i]? = some x → ∃ x', (sl.set s (.arr t true es'))[i]? = some x' ∧ Later x x' := by
    intro i x hx
    by_cases h : s = i
    · subst h
      rw [hs] at hx
      cases hx
      exact ⟨_, List.getElem?_set_self hsl, by simp [Later, hlen]⟩
    · exact ⟨x, by rw [List.getElem?_set_ne h]; exact hx, Later.refl x⟩
  refine hm.turn2 (Fs' := Fs) hO (fun b hb hgd => hap.no (hge b hb) hgd.2.2) (fun b hb => hap.old (hge b hb)) (by simp [hm.flen]) (by simp [hm.Flen]) hm.nd hm.ge hlt (fun _ _ h _ => h) (fun b hb => .inr (hT b hb)) (fun i x h F2 q1 q2 q3 => ?_)
  rcases old q1 with ⟨rfl, rfl⟩ | ⟨h1, q1⟩
  · rw [k1] at q2
    rw [k2] at q3
    cases q2
    cases q3
    exact .inr hrow
  · exact .inl ⟨q1, q2, q3, fun b hb hb2 => flat_disj hm.nd q3 k2 h1 b hb hb2⟩
theorem allLike_at : ∀ {xs ys : List Slot}, allLike xs ys → xs.length = ys.length ∧ ∀ (i : Nat) (x y : Slot), xs[i]? = some x → ys[i]? = some y → ∃ t es es', x = .arr t true es ∧ y = .arr t true es' ∧ es'.length = es.length
  | [], [], _ => ⟨rfl, fun i x y h => by simp at h⟩
  | x :: xs, y :: ys, h => by
    obtain ⟨h1, h2⟩ := h
    obtain ⟨k1, k2⟩ := allLike_at h2
    refine ⟨by simp [k1], fun i a b ha hb => ?_⟩
    match i with
    | 0 =>
      simp at ha hb
      subst ha hb
      unfold arrLike at h1
      split at h1
      · obtain ⟨rfl, h1⟩ := h1; exact ⟨_, _, _, rfl, rfl, h1⟩
      · exact h1.elim
    | i + 1 => exact k2 i a b (by simpa using ha) (by simpa using hb)
  | [], _ :: _, h => h.elim
  | _ :: _, [], h => h.elim
/-- Rows are written over in place, by a function that is given them among its arguments. -/
theorem callW_sound (hst : w0.st = true) (hap : w0.Apart) (hm : MemR P w0 φ sl w Fs) {f : FuncId} {xs args : List V} {slc slc' : List Slot} {π : List Nat} {n : Int} (hc : ConW P f args slc n slc') (hn : π.Nodup) (hs : leSlots true sl π π slc) (ht : leTmps true sl π xs args) {vs : List Value} (hl : vs.length = xs.length)
    (hv : ∀ (i : Nat) (x : V) (v : Value), xs[i]? = some x → vs[i]? = some v → VR w (good w0.R φ sl w) φ sl x v) :
    callable P f = true ∧ Calls P f vs.toArray w fun e w' => e = .returned (.int .i64 n) ∧ Turn P w0 φ sl w φ (setAll sl π slc') w' := by
  obtain ⟨hcall, hlike, hcon⟩ := hc
  obtain ⟨k1, k2⟩ := allLike_at hlike
  refine ⟨hcall, ?_⟩
  obtain ⟨s1, s2⟩ := leSlots_at hs
  have hpl : ∀ k ∈ π, k < sl.length := fun k hk => by
    obtain ⟨i, hi, rfl⟩ := List.mem_iff_getElem.1 hk
    obtain ⟨x, hx, _⟩ := s2 i _ _ (List.getElem?_eq_getElem hi) (List.getElem?_eq_getElem (by omega))
    exact (List.getElem?_eq_some_iff.1 hx).1
  have hkl : ∀ k ∈ π, k < Fs.length := fun k hk => by rw [hm.Flen]; exact hpl k hk
  have hge : ∀ b ∈ Fs.flatten, w0.B b ∨ w0.w.heap.size ≤ b := hm.ge
  have hG0 : ∀ {φ' : Hdrs}, Gc π φ sl φ' slc → ∀ b, good w0.R φ sl w b → good (good w0.R φ sl w) φ' slc w b := by
    intro φ' hg b hb
    refine ⟨hb.1, fun ht => ?_, hb⟩
    obtain ⟨k, x, c, _, k2, k3, k4⟩ := gc_top hg ht
    exact hb.2.1 ⟨k, x, c, k2, k3, k4⟩
  obtain ⟨hg, _, _⟩ := le_core (G := fun _ => True) hst hm hn hs (fun _ _ => trivial) (by simp)
  obtain ⟨_, hls, hval⟩ := le_core (G := good (good w0.R φ sl w) (keepH π φ (none, 0)) slc w) hst hm hn hs (hG0 hg) (by simp)
  have hcnt : ∀ q, cnt q (List.zipWith cutF slc (keepH π Fs [])) ≤ cnt q (keepH π Fs []) := fun q => cnt_cut q _ _
  have hcnt2 : ∀ q, cnt q (keepH π Fs []) ≤ cnt q Fs := fun q => cnt_keep q hn hkl
  have hof : ofSlots Fs π = (keepH π Fs []).flatten := rfl
  generalize hFc : List.zipWith cutF slc (keepH π Fs []) = Fc at *
  have hcF : ∀ q ∈ Fc.flatten, q ∈ (ofSlots Fs π) := fun q hq => by rw [hof]; exact mem_cnt hcnt hq
  have hcS : ∀ q ∈ Fc.flatten, q ∈ Fs.flatten := fun q hq => mem_cnt (fun q => Nat.le_trans (hcnt q) (hcnt2 q)) hq
  have hno : ∀ b, good w0.R φ sl w b → b < w.heap.size ∧ b ∉ Fc.flatten := fun b hb => ⟨hb.1, fun h => hap.no (hge b (hcS b h)) hb.2.2⟩
  have hmc : MemR P ⟨w, (· ∈ Fc.flatten), (· ∈ Fc.flatten), keepH π φ (none, 0), good w0.R φ sl w, true, by simp⟩ (keepH π φ (none, 0)) slc w Fc := by
    have hsr := hls.sr
    refine ⟨Kept.refl _ _, fun b hb => .inl ?_, hls.flen, hls.Flen, nodup_cnt hm.nd (fun q => Nat.le_trans (hcnt q) (hcnt2 q)), fun q hq => .inl hq, fun i h hi => ⟨hi, fun hu => ?_⟩, hsr⟩
    · obtain ⟨s, x, c, h1, h2, h3⟩ := hb
      have hsl : s < Fc.length := by rw [hls.Flen]; exact (List.getElem?_eq_some_iff.1 h1).1
      have hF := List.getElem?_eq_getElem hsl
      exact mem_flat hF ((hsr s x _ _ h1 h3 hF).head h2)
    · have hi' : i < slc'.length := by rw [← k1]; exact (List.getElem?_eq_some_iff.1 hu).1
      obtain ⟨t, es, es', e1, _⟩ := k2 i _ _ hu (List.getElem?_eq_getElem hi')
      cases e1
  obtain ⟨ta1, ta2⟩ := leTmps_at ht
  have hargs : ∀ (i : Nat) (y : V) (v : Value), args[i]? = some y → vs[i]? = some v → VR w (good (good w0.R φ sl w) (keepH π φ (none, 0)) slc w) (keepH π φ (none, 0)) slc y v := by
    intro i y v hy hv'
    obtain ⟨x, hx, hle⟩ := ta2 i y hy
    exact hval _ y v hle (hv i x v hx hv')
  refine (hcon w (keepH π φ (none, 0)) Fc (good w0.R φ sl w) hno vs hmc (by rw [← ta1]; exact hl) hargs).mono ?_
  rintro e w' ⟨rfl, Fc', hmc'⟩
  refine ⟨rfl, ?_⟩
  have hO : Only Fc.flatten w w' := ⟨hmc'.only.os, hmc'.only.tape, hmc'.only.output, hmc'.only.size, fun b hb hbF => hmc'.only.block b hb hbF⟩
  have hπc : π.length = slc'.length := by rw [s1, k1]
  have hπF : π.length = Fc'.length := by rw [hmc'.Flen]; exact hπc
  have hT : ∀ b, top φ (setAll sl π slc') b → top φ sl b := by
    rintro b ⟨s, x, c, h1, h2, h3⟩
    by_cases hsπ : s ∈ π
    · obtain ⟨i, hi, rfl⟩ := List.mem_iff_getElem.1 hsπ
      obtain ⟨x0, hx0, hle⟩ := s2 i _ _ (List.getElem?_eq_getElem hi) (List.getElem?_eq_getElem (by omega))
      obtain ⟨t, es, es', e1, _⟩ := k2 i _ _ (List.getElem?_eq_getElem (by omega)) (List.getElem?_eq_getElem (by omega))
      rw [e1] at hle
      refine ⟨_, x0, c, hx0, ?_, h3⟩
      rcases hle with rfl | ⟨_, h, _⟩
      · trivial
      · cases h
    · rw [setAll_other _ _ _ hsπ] at h1
      exact ⟨s, x, c, h1, h2, h3⟩
  have one : ∀ q, q ∈ Fc'.flatten → cnt q Fc' = 1 := fun q hq => by
    have h1 := List.nodup_iff_count.1 hmc'.nd q
    have h2 := List.count_pos_iff.2 hq
    simp only [cnt]
    omega
  have hset := fun q => cnt_setAll q π Fs Fc' hn hkl hπF
  have hin : ∀ q, q ∈ (setAll Fs π Fc').flatten → q ∈ Fs.flatten ∨ q ∈ Fc'.flatten := fun q hq => by
    have h1 := hset q
    have h2 := List.count_pos_iff.2 hq
    by_cases h3 : q ∈ Fs.flatten
    · exact .inl h3
    · refine .inr (List.count_pos_iff.1 ?_)
      have h4 := List.count_eq_zero.2 h3
      simp only [cnt] at h1
      omega
  refine hm.turn2 (Fs' := setAll Fs π Fc') hO (fun b hb hgd => hap.no (hge b (hcS b hb)) hgd.2.2) (fun b hb => hap.old (hge b (hcS b hb))) (by rw [setAll_len, hm.flen]) (by rw [setAll_len, setAll_len, hm.Flen]) ?_ ?_ ?_ (fun _ _ h _ => h) (fun b hb => .inr (hT b hb)) ?_
  · rw [List.nodup_iff_count]
    intro q
    have h1 := hset q
    have h2 := List.nodup_iff_count.1 hm.nd q
    simp only [cnt] at h1
    by_cases hq : q ∈ Fc'.flatten
    · have h3 := one q hq
      simp only [cnt] at h3
      rcases hmc'.ge q hq with h4 | h4
      · have h5 := List.count_pos_iff.2 (hcF q h4)
        omega
      · have h5 : Fs.flatten.count q = 0 := List.count_eq_zero.2 fun h => by have := hm.lt q h; have h4 : w.heap.size ≤ q := h4; omega
        omega
    · have h3 := List.count_eq_zero.2 hq
      omega
  · intro q hq
    rcases hin q hq with h | h
    · exact hge q h
    · rcases hmc'.ge q h with h4 | h4
      · exact hge q (hcS q h4)
      · have h4 : w.heap.size ≤ q := h4
        have := hm.only.size
        exact .inr (by omega)
  · intro s x hx
    by_cases hsπ : s ∈ π
    · obtain ⟨i, hi, rfl⟩ := List.mem_iff_getElem.1 hsπ
      obtain ⟨x0, hx0, hle⟩ := s2 i _ _ (List.getElem?_eq_getElem hi) (List.getElem?_eq_getElem (by omega))
      obtain ⟨t, es, es', e1, e2, e3⟩ := k2 i _ _ (List.getElem?_eq_getElem (by omega)) (List.getElem?_eq_getElem (by omega))
      rw [hx] at hx0
      cases hx0
      rw [e1] at hle
      refine ⟨.arr t true es', ?_, ?_⟩
      · rw [setAll_at π sl slc' hn hpl hπc (List.getElem?_eq_getElem hi), List.getElem?_eq_getElem (by omega), e2]
      · rcases hle with rfl | ⟨_, h, _⟩
        · simpa [Later] using e3
        · cases h
    · exact ⟨x, by rw [setAll_other _ _ _ hsπ]; exact hx, Later.refl x⟩
  · intro s x h F q1 q2 q3
    by_cases hsπ : s ∈ π
    · obtain ⟨i, hi, rfl⟩ := List.mem_iff_getElem.1 hsπ
      have hi' := List.getElem?_eq_getElem hi
      rw [setAll_at π sl slc' hn hpl hπc hi'] at q1
      rw [setAll_at π Fs Fc' hn hkl hπF hi'] at q3
      have hsr := hmc'.sr i x h F q1 (keepH_at hi' q2) q3
      obtain ⟨t, es, es', e1, e2, e3⟩ := k2 i _ _ (List.getElem?_eq_getElem (by omega)) q1
      subst e2
      exact .inr hsr
    · rw [setAll_other _ _ _ hsπ] at q1 q3
      refine .inl ⟨q1, q2, q3, fun b hb hb2 => ?_⟩
      have hb3 := hcF b hb2
      unfold ofSlots at hb3
      obtain ⟨l, hl1, hl2⟩ := List.mem_flatten.1 hb3
      obtain ⟨k, hk, rfl⟩ := List.mem_map.1 hl1
      have hFk : Fs[k]? = some (Fs[k]'(hkl k hk)) := List.getElem?_eq_getElem _
      rw [hFk] at hl2
      exact flat_disj hm.nd q3 hFk (fun e => hsπ (e ▸ hk)) b hb hl2
theorem callS_sound {m : Mode} (hst : w0.st = m.st) (hck : m.tc = true → m.st = true → w0.Apart) (hr : Rel P w0 φ σ a w) {f : FuncId} {xs : List V} {K : V → List Slot → Prop} (h : CallS P m σ.slots f xs K) {vs : List Value} (hl : vs.length = xs.length)
    (hv : ∀ (i : Nat) (x : V) (v : Value), xs[i]? = some x → vs[i]? = some v → VR w (good w0.R φ σ.slots w) φ σ.slots x v) :
    callable P f = true ∧ Calls P f vs.toArray w fun e w' => ∃ v φ' sl' z, e = .returned v ∧ Turn P w0 φ σ.slots w φ' sl' w' ∧ VR w' (good w0.R φ' sl' w') φ' sl' z v ∧ K z sl' := by
  obtain ⟨h1, h2, h⟩ := h
  have hap := hck h1 h2
  replace hst := hst.trans h2
  obtain ⟨Fs, hm⟩ := hr.mem
  rcases h with ⟨ys, ks, n, q1, q2, q3⟩ | ⟨s, t, es, k, n, es', rfl, q1, q2, q3⟩ | ⟨π, args, slc, slc', n, q1, q2, q3, q4, q5⟩
  · obtain ⟨c1, c2⟩ := callK_sound hap hm q1 q2 hl hv
    refine ⟨c1, c2.mono ?_⟩
    rintro e w' ⟨rfl, ht⟩
    exact ⟨_, φ, _, _, rfl, ht, .d (.int _ _), q3⟩
  · match vs, hl with
    | [v, u], _ =>
      obtain ⟨c1, c2⟩ := callM_sound hap hm q1 q2 (hv 0 _ v rfl rfl) (hv 1 _ u rfl rfl)
      refine ⟨c1, c2.mono ?_⟩
      rintro e w' ⟨rfl, ht⟩
      exact ⟨_, φ, _, _, rfl, ht, .d (.int _ _), q3⟩
  · obtain ⟨c1, c2⟩ := callW_sound hst hap hm q1 q2 q3 q4 hl hv
    refine ⟨c1, c2.mono ?_⟩
    rintro e w' ⟨rfl, ht⟩
    exact ⟨_, φ, _, _, rfl, ht, .d (.int _ _), q5⟩
end
end Go.Proofs.Ytojhjcgalmaljaa

/-
  The model's code gives what the abstract walk gives; contracts out of abstract walks. Plain lemmas, about no function of the program.
  Conditions: those typed in each theorem.
-/
namespace Go.Proofs.Ytojhjcgalmaljaa
open Go.RowKit Go.ChangeShapes Go.WideShapes
set_option linter.unusedVariables false

section
variable {P : Program} {w0 : Base} {w w' : World} {φ φ' : Hdrs} {σ σ' : St} {a : Act} {sl sl' : List Slot} {Fs Fs' : List (List Nat)}
theorem St.put_slots (σ : St) (d : Option Nat) (x : V) : (σ.put d x).slots = σ.slots := by cases d <;> rfl
theorem row_take {R : List D → List Value → List Nat → Prop} {t : TypeId} {es : List (List D)} {A : Option Nat} {c : Nat} {F : List Nat} (h : RowOf P w R t es A c F) (n : Nat) : ∃ F', RowOf P w R t (es.take n) A c F' ∧ ∀ q, F'.count q ≤ F.count q := by
  obtain ⟨h1, h2, ⟨rfl, rfl, rfl⟩ | ⟨g, cur, Gs, rfl, h3, h4, h5, h6, h7, rfl⟩⟩ := h
  · exact ⟨[], ⟨h1, by rw [List.length_take]; omega, .inl ⟨rfl, rfl, rfl⟩⟩, by simp⟩
  · refine ⟨g :: (Gs.take n).flatten, ⟨h1, by simp; omega, .inr ⟨g, cur, Gs.take n, rfl, h3, h4, by simp [h5], fun e he => h6 e (List.mem_of_mem_take he), fun i e f he hf => ?_, rfl⟩⟩, fun q => ?_⟩
    · rw [List.getElem?_take] at he hf
      split at he
      · rename_i hi; rw [if_pos hi] at hf; exact h7 i e f he hf
      · cases he
    · have e1 : Gs.flatten = (Gs.take n).flatten ++ (Gs.drop n).flatten := by rw [← List.flatten_append, List.take_append_drop]
      rw [List.count_cons, List.count_cons, e1, List.count_append]
      omega
theorem sliceT_sound (hst : w0.st = false) (hr : Rel P w0 φ σ a w) {t : TypeId} {s n : Nat} {lo hi : Option Operand} {z : V} {sl' : List Slot} {v : Value} (hn : lenV σ.slots (.ref s) = some n) (h : sliceT P t σ.slots s lo hi (boundV σ lo 0) (boundV σ hi n) = some (z, sl'))
    (hv : σ.vr w0.R φ w (.ref s) v) : ∃ u φ', (Instr.sliceAt t v (lo.map a.eval) (hi.map a.eval) none).run P w = .ok u w ∧ Turn P w0 φ σ.slots w φ' sl' w ∧ VR w (good w0.R φ' sl' w) φ' sl' z u := by
  obtain ⟨Fs, hm⟩ := hr.mem
  unfold sliceT at h
  split at h
  · rename_i e t' ow es l m he hs hl hh
    have hlen : n = es.length := by simp [lenV, hs] at hn; exact hn.symm
    subst hlen
    split at h
    · rename_i hc
      obtain ⟨c1, c2, c3, c4⟩ := hc
      cases hv with
      | gone h1 => rw [hs] at h1; cases h1
      | @ref _ _ _ _ A c h1 h2 =>
        rw [hs] at h1
        cases h1
        obtain ⟨hd, F, k1, k2, k3⟩ := hm.at_ hs
        rw [h2] at k1
        cases k1
        have hcap : es.length ≤ c := by cases ow <;> exact k3.2.1
        have hbl := boundV_sound hr hl
        have hbh := boundV_sound hr hh
        have hrun : (Instr.sliceAt t (.slice (hdr A) es.length c) (lo.map a.eval) (hi.map a.eval) none).run P w = .ok (.slice (if c = l then hdr A else (hdr A).map (·.add (l * P.cellsOf e))) (m - l) (c - l)) w := by
          refine run_sliceAt (elemOf_some he) c1 ?_ ?_ c2 (by omega)
          · rcases hbl with ⟨rfl, rfl⟩ | ⟨y, k, rfl, hy⟩
            · exact .inl ⟨rfl, rfl⟩
            · exact .inr ⟨k, by simp [hy]⟩
          · rcases hbh with ⟨rfl, rfl⟩ | ⟨y, k, rfl, hy⟩
            · exact .inl ⟨rfl, rfl⟩
            · exact .inr ⟨k, by simp [hy]⟩
        split at h
        · cases h
          have hl0 : l = 0 := by simp [boundV] at hl; exact hl.symm
          subst hl0
          have hval : (if c = 0 then hdr A else (hdr A).map (·.add (0 * P.cellsOf e))) = hdr A := by
            split
            · rfl
            · cases A <;> simp [Addr.add]
          rw [hval] at hrun
          have hsr : ∃ F', (∀ φ' sl', Ext w0.R φ σ.slots w φ' sl' w → SR P w (good w0.R φ' sl' w) φ' sl' (.arr t' ow (es.take m)) (A, c) F') ∧ ∀ q, F'.count q ≤ F.count q := by
            cases ow with
            | true => obtain ⟨F', r1, r2⟩ := row_take k3 m; exact ⟨F', fun _ _ _ => r1, r2⟩
            | false => obtain ⟨F', r1, r2⟩ := row_take k3 m; exact ⟨F', fun φ' sl' he => r1.stay (fun _ _ => rfl) fun _ _ _ _ _ hr => hr.mono he.hk, r2⟩
          obtain ⟨F', r1, r2⟩ := hsr
          have hof : ofSlots Fs [s] = F := by simp [ofSlots, k2]
          refine ⟨_, φ ++ [(A, c)], hrun, turn_push (y := .arr t' ow (es.take m)) (F' := F') hm (ks := [s]) (by simp) (by simpa using ⟨_, hs, trivial⟩) (fun g hg => by subst hg; exact ⟨s, by simp, c, h2⟩) (Only.refl _ _) (fun g hg => .inl hg) r1 (fun q => by rw [hof]; have := r2 q; omega), ?_⟩
          have hl1 : (es.take m).length = m - 0 := by simp; omega
          rw [← hl1, Nat.sub_zero]
          exact .ref (t := t') (ow := ow) (es := es.take m) (by rw [List.getElem?_append_right (by rw [kill_len]; exact Nat.le_refl _), kill_len]; simp) (by rw [List.getElem?_append_right (by rw [hm.flen]; exact Nat.le_refl _), hm.flen]; simp)
        · cases h
          obtain ⟨t1, t2, t3⟩ := freeze_turn hst hm (ks := [s]) (by simp) (by simpa using ⟨_, hs, trivial⟩)
          have hrd : Rd w (good w0.R φ (kill [s] σ.slots) w) (.sl t' es) (.slice (hdr A) es.length c) := presD_rd (x := .ref s) (by simp [presD, hs]) hm (.ref hs h2) t2 fun s' e F hF => by cases e; exact t3 s (by simp) F hF
          obtain ⟨_, q2⟩ := hrd.part c2 c3 (fun x hx => by have := List.all_eq_true.1 c4 x hx; simpa using this)
          exact ⟨_, φ, hrun, t1, .d q2⟩
    · cases h
  · cases h
theorem aop_sound {m : Mode} (hst : w0.st = m.st) (hck : m.tc = true → m.st = true → w0.Apart) {o : Oper} {K : St → Prop} (h : AOp P m o K σ) (hr : Rel P w0 φ σ a w) {KC : Act → World → Prop} {Q : Exit → Act → World → Prop} (hK : ∀ φ' σ' a' w', K σ' → Rel P w0 φ' σ' a' w' → KC a' w') : o.wp P a w KC Q := by
  obtain ⟨Fs, hm⟩ := hr.mem
  have quiet : (∃ x news, AQ P m.st σ.slots.length σ o x news ∧ K (St.put ⟨σ.tmps, σ.slots ++ news⟩ o.dst x)) → o.wp P a w KC Q := by
    rintro ⟨x, news, h1, h2⟩
    refine aq_sound hst h1 hr fun v w' hq => ?_
    obtain ⟨φ', h3, h4⟩ := turn_made hm hq
    exact hK φ' _ _ _ h2 (hr.turn h3 h4 o.dst)
  unfold AOp at h
  split at h
  · rename_i t p y ho
    obtain ⟨sl', h1, h2⟩ := h
    obtain ⟨w', h3, h4⟩ := storeV_sound hst h1 hm (hr.eval p) (hr.evalT t y)
    have hrun : (execOp a.eval o).run P w = .ok .skip w' := by simp [execOp, ho, h3]
    unfold Oper.wp
    rw [hrun]
    exact hK φ _ _ _ h2 (hr.turn h4 (.any _) o.dst)
  · rename_i c ho
    split at h
    · rename_i hc
      split at h
      · rename_i x y t t' hx ht
        obtain ⟨rfl, h⟩ := h
        obtain ⟨r, w', φ', sl', z, h1, h2, h3, h4⟩ := append_sound hst (ty := o.type) hm (hr.evalT _ x) (hr.evalT _ y) h
        have hargs : c.args = #[x, y] := by rw [← Array.toArray_toList (xs := c.args), hx]
        have htys : c.argTypes = #[t', t'] := by rw [← Array.toArray_toList (xs := c.argTypes), ht]
        have hrun : (execOp a.eval o).run P w = .ok (.value r) w' := by
          simp [execOp, ho, resolve, hc, invoke, builtin, hargs, htys, h1]
        exact wp_value hrun (hK φ' _ _ _ h4 (hr.turn h2 h3 o.dst))
      · exact h.elim
    · rename_i g hc
      rcases h with h | h
      · exact quiet h
      · split at h
        · rename_i f caps hf
          have hg := hr.eval g
          rw [hf] at hg
          obtain ⟨us, hus, hul, huv⟩ := hg.fnv
          have hcall : callable P f = true ∧ Calls P f (c.args.toList.map a.eval ++ us).toArray w fun e w' => ∃ v φ' sl' z, e = .returned v ∧ Turn P w0 φ σ.slots w φ' sl' w' ∧ VR w' (good w0.R φ' sl' w') φ' sl' z v ∧ K (St.put ⟨σ.tmps, sl'⟩ o.dst z) := by
            rcases h with h | h
            · exact callT_sound hst hr h (vs := c.args.toList.map a.eval ++ us) (by simp [hul]) (args_vr hr hul huv)
            · exact callS_sound hst hck hr h (vs := c.args.toList.map a.eval ++ us) (by simp [hul]) (args_vr hr hul huv)
          obtain ⟨k1, k2⟩ := hcall
          have hrun := run_call_value (w := w) (a := a) (o := o) (c := c) ho hc hus k1
          unfold Oper.wp
          rw [hrun]
          refine k2.mono ?_
          rintro e w' ⟨v, φ', sl', z, rfl, q1, q2, q3⟩
          exact hK φ' _ _ _ q3 (hr.turn q1 q2 o.dst)
        · exact h.elim
    · exact quiet h
  · rename_i t x lo hi ho
    split at h
    · rename_i s hx
      obtain ⟨_, h0, n, z, sl', h1, h2, h3⟩ := h
      have hv := hr.eval x
      rw [hx] at hv
      obtain ⟨u, φ', q1, q2, q3⟩ := sliceT_sound (hst.trans h0) hr h1 h2 hv
      have hrun : (execOp a.eval o).run P w = .ok (.value u) w := by simp [execOp, ho, q1]
      exact wp_value hrun (hK φ' _ _ _ h3 (hr.turn q2 q3 o.dst))
    · exact quiet h
  · exact quiet h
theorem Rel.same (h : Rel P w0 φ σ a w) {d : Nat} {x : V} (hx : σ.get d = x) (hd : x ≠ .any) : σ.put (some d) x = σ := by
  unfold St.put
  unfold St.get at hx
  cases hd' : σ.tmps[d]? with
  | none => rw [hd'] at hx; exact absurd hx.symm hd
  | some y =>
    rw [hd'] at hx
    simp at hx
    subst hx
    have hl := (List.getElem?_eq_some_iff.1 hd').1
    have : σ.tmps.set d y = σ.tmps := by
      apply List.ext_getElem?
      intro i
      by_cases hi : d = i
      · subst hi; rw [List.getElem?_set_self hl, hd']
      · rw [List.getElem?_set_ne hi]
    simp only [this]
theorem aops_sound {m : Mode} (hst : w0.st = m.st) (hck : m.tc = true → m.st = true → w0.Apart) {ops : Array Oper} {K : St → Prop} {Q : Exit → Act → World → Prop} (hK : ∀ φ' σ' a' w', K σ' → Rel P w0 φ' σ' a' w' → Q .normal a' w') : ∀ (l : List Oper) {φ : Hdrs} {σ : St} {a : Act} {w : World}, AOps P m ops K l σ → Rel P w0 φ σ a w → wpList P ops Q l a w
  | [], φ, σ, a, w, h, hr => hK φ σ a w h hr
  | o :: l, φ, σ, a, w, h, hr => by
    refine wpList_step fun KC hKC => ?_
    unfold AOps at h
    split at h
    · rename_i hg
      rw [if_pos (by simp [Region.wanted, hg])]
      exact aop_sound hst hck h hr fun φ' σ' a' w' h1 h2 => hKC a' w' (aops_sound hst hck hK l h1 h2)
    · rename_i j b hg
      split at h
      · exact h.elim
      rename_i d hd
      split at h
      · rename_i t ht
        have hv := hr.eval (.tmp d)
        have hget : σ.eval (.tmp d) = .d (.bool t) := ht
        rw [hget] at hv
        have hv' := hv.bool
        have hl : d < a.tmps.size := by
          rcases Nat.lt_or_ge d a.tmps.size with h | h
          · exact h
          · have : a.eval (.tmp d) = undef := by show a.tmps.getD d undef = _; simp [Array.getD, Nat.not_lt.2 h]
            rw [this] at hv'; cases hv'
        have hy : yielded ops a.tmps j = some t := by
          unfold yielded
          rw [hd]
          have : a.tmps[d]? = some (.bool t) := by
            rw [Array.getElem?_eq_getElem hl]
            have : a.eval (.tmp d) = a.tmps[d] := by show a.tmps.getD d undef = _; simp [Array.getD, hl]
            rw [← this, hv']
          simp [this]
        have hsame := hr.same ht (by simp)
        by_cases htb : t = b
        · subst htb
          rw [if_pos (by simp [Region.wanted, hg, hy])]
          have h1 := h.1 rfl
          rw [hsame] at h1
          exact aop_sound hst hck h1 hr fun φ' σ' a' w' h1 h2 => hKC a' w' (aops_sound hst hck hK l h1 h2)
        · have htn : t = !b := by cases t <;> cases b <;> simp_all
          rw [if_neg (by simp [Region.wanted, hg, hy, htb])]
          have h1 := h.2 htn
          rw [← htn, hsame] at h1
          have hr2 : Rel P w0 φ (σ.put o.dst (.tup [])) (a.put o.dst undef) w := hr.turn (Turn.refl hr.mem) vr_undef o.dst
          exact hKC _ _ (aops_sound hst hck hK l h1 hr2)
      · rename_i ht
        have hv := hr.eval (.tmp d)
        have hget : σ.eval (.tmp d) = .tup [] := ht
        rw [hget] at hv
        have hv' := hv.undef
        have hy : yielded ops a.tmps j = none := by
          unfold yielded
          rw [hd]
          cases hq : a.tmps[d]? with
          | none => simp [hq]
          | some u =>
            have : a.eval (.tmp d) = u := by show a.tmps.getD d undef = _; rw [Array.getD_eq_getD_getElem?, hq]; rfl
            rw [this] at hv'
            subst hv'
            simp [hq, undef]
        rw [if_neg (by simp [Region.wanted, hg, hy])]
        have hr2 : Rel P w0 φ (σ.put o.dst (.tup [])) (a.put o.dst undef) w := hr.turn (Turn.refl hr.mem) vr_undef o.dst
        exact hKC _ _ (aops_sound hst hck hK l h hr2)
      · exact h.elim
theorem aops_append {m : Mode} {ops : Array Oper} {K : St → Prop} {l2 : List Oper} : ∀ (l1 : List Oper) (σ : St), AOps P m ops K (l1 ++ l2) σ = AOps P m ops (AOps P m ops K l2) l1 σ
  | [], σ => rfl
  | o :: l1, σ => by
    have e : AOps P m ops K (l1 ++ l2) = AOps P m ops (AOps P m ops K l2) l1 := funext (aops_append l1)
    rw [List.cons_append]
    unfold AOps
    rw [e]
theorem awp_sound {m : Mode} (hst : w0.st = m.st) (hck : m.tc = true → m.st = true → w0.Apart) (hpin : w0.H.length ≤ m.pin) : ∀ (c : Code) {Q : Exit → St → Prop} {QC : Exit → Act → World → Prop} {φ : Hdrs} {σ : St} {a : Act} {w : World}, AWp P m c Q σ → Rel P w0 φ σ a w → (∀ e φ' σ' a' w', Q e σ' → Rel P w0 φ' σ' a' w' → QC e a' w') → c.wp P QC a w
  | .skip, Q, QC, φ, σ, a, w, h, hr, hQ => wp_skip (hQ _ _ _ _ _ h hr)
  | .region id ops draw, Q, QC, φ, σ, a, w, h, hr, hQ => by
    unfold AWp at h
    cases draw with
    | false => exact wp_region_list (aops_sound hst hck (fun φ' σ' a' w' => hQ .normal φ' σ' a' w') _ h hr)
    | true =>
      rw [if_pos rfl] at h
      split at h
      · obtain ⟨q, h1, h2⟩ := h
        exact draw_sound (mo := m.still) hst rfl h1 h2 hr (fun {φ σ a w} h' hr' => aops_sound hst hck (fun φ' σ' a' w' => hQ .normal φ' σ' a' w') _ h' hr')
      · obtain ⟨h1, h2⟩ := h
        rw [← List.take_append_drop (quietLen ops.toList) ops.toList, aops_append] at h2
        exact draw_sound (mo := m.still) hst rfl (drawAt_of h1) h2 hr (fun {φ σ a w} h' hr' => aops_sound (m := m.still) hst (fun h => by cases h) (fun φ' σ' a' w' => hQ .normal φ' σ' a' w') _ h' hr')
  | .seq x y, Q, QC, φ, σ, a, w, h, hr, hQ => by
    refine wp_seq (awp_sound hst hck hpin x h hr fun e φ' σ' a' w' hq hr' => ?_)
    cases e with
    | normal => exact awp_sound hst hck hpin y hq hr' hQ
    | _ => exact hQ _ φ' σ' a' w' hq hr'
  | .cond c x y, Q, QC, φ, σ, a, w, h, hr, hQ => by
    unfold AWp at h
    split at h
    · rename_i t ht
      have hv := hr.eval c
      rw [ht] at hv
      exact wp_cond_split hv.bool (fun e => awp_sound hst hck hpin x (h.1 e) hr hQ) (fun e => awp_sound hst hck hpin y (h.2 e) hr hQ)
    · exact h.elim
  | .block id c, Q, QC, φ, σ, a, w, h, hr, hQ => by
    refine wp_block (awp_sound hst hck hpin c h hr fun e φ' σ' a' w' hq hr' => ?_)
    cases e with
    | exit id' =>
      simp only [inBlockA] at hq
      simp only [Exit.inBlock]
      split
      · rename_i hi; rw [if_pos hi] at hq; exact hQ _ φ' σ' a' w' hq hr'
      · rename_i hi; rw [if_neg hi] at hq; exact hQ _ φ' σ' a' w' hq hr'
    | _ => exact hQ _ φ' σ' a' w' hq hr'
  | .loop c, Q, QC, φ, σ, a, w, h, hr, hQ => by
    obtain ⟨ι, I, S, μ, i0, h0, hle, hround⟩ := h
    obtain ⟨φ0, hr0⟩ := hr.le hst hpin hle
    refine wp_loop_ghost (fun n a w => ∃ i φ, I i ∧ μ i = n ∧ Rel P w0 φ (S i) a w) (μ i0) ⟨i0, φ0, h0, rfl, hr0⟩ ?_
    rintro n a w ⟨i, φ, hi, rfl, hr⟩
    refine awp_sound hst hck hpin c (hround i hi) hr fun e φ' σ' a' w' hq hr' => ?_
    cases e with
    | normal =>
      obtain ⟨j, hj, hlt, hle⟩ := hq
      obtain ⟨φ2, hr2⟩ := hr'.le hst hpin hle
      exact ⟨μ j, hlt, j, φ2, hj, rfl, hr2⟩
    | _ => exact hQ _ φ' σ' a' w' hq hr'
  | .exit id, Q, QC, φ, σ, a, w, h, hr, hQ => wp_exit (hQ _ _ _ _ _ h hr)
  | .ret, Q, QC, φ, σ, a, w, h, hr, hQ => wp_ret (hQ _ _ _ _ _ h hr)
  | .rangeFunc .., _, _, _, _, _, _, h, _, _ => h.elim
  | .scope _, _, _, _, _, _, _, h, _, _ => h.elim
  | .label _, _, _, _, _, _, _, h, _, _ => h.elim
  | .goto _, _, _, _, _, _, _, h, _, _ => h.elim
  | .refuse _, _, _, _, _, _, _, h, _, _ => h.elim
end

/-! ### Contracts -/
def ofX (x : X) : V :=
  match x with
  | .d x => .d x
  | .agg ds => .agg (ds.map .d)
  | .tup _ => .any
def gives (sl : List Slot) (v : V) : Option (X × List Nat) :=
  match v with
  | .tup vs => (give1s sl vs).map fun p => (.tup p.1, p.2)
  | v => give1 sl v
def resV (P : Program) (st : Bool) (σ : St) (r : ResultVar) : Option V :=
  match r with
  | .tmp t => some (σ.get t)
  | .cell a t => loadV P st t σ.slots (σ.get a)
def resVs (P : Program) (st : Bool) (σ : St) : List ResultVar → Option (List V)
  | [] => some []
  | r :: rs => match resV P st σ r, resVs P st σ rs with
    | some v, some vs => some (v :: vs)
    | _, _ => none
/-- The function's result. -/
def RetA (P : Program) (st : Bool) (rs : List ResultVar) (r : X) (e : Exit) (σ : St) : Prop :=
  (e = .ret ∨ e = .normal) ∧ match resVs P st σ rs with
    | some [v] => ∃ ks, gives σ.slots v = some (r, ks)
    | some vs => ∃ ks, gives σ.slots (.tup vs) = some (r, ks)
    | none => False
section
variable {P : Program} {w0 : Base} {w w' : World} {φ φ' : Hdrs} {σ σ' : St} {a : Act} {sl sl' : List Slot} {Fs Fs' : List (List Nat)}
theorem gives_sound (hm : MemR P w0 φ sl w Fs) {v : V} {x : X} {ks : List Nat} {u : Value} (h : gives sl v = some (x, ks)) (hv : VR w (good w0.R φ sl w) φ sl v u) : ∃ F, XRes P w x u F ∧ F.Nodup ∧ ∀ q ∈ F, w0.B q ∨ w0.w.heap.size ≤ q := by
  have done : ∀ {ks : List Nat}, ks.Nodup → (∀ k ∈ ks, k < Fs.length) → (ofSlots Fs ks).Nodup ∧ ∀ q ∈ ofSlots Fs ks, w0.B q ∨ w0.w.heap.size ≤ q := by
    intro ks hn hl
    refine ⟨?_, fun q hq => ?_⟩
    · rw [List.nodup_iff_count]
      intro q
      have h1 := cnt_killF q hn hl
      have h2 := List.nodup_iff_count.1 hm.nd q
      simp only [cnt] at h1
      omega
    · have h1 := cnt_killF q hn hl
      have h2 := List.count_pos_iff.2 hq
      exact hm.ge q (List.count_pos_iff.1 (by simp only [cnt] at h1; omega))
  unfold gives at h
  split at h
  · rw [Option.map_eq_some_iff] at h
    obtain ⟨⟨xs, ks'⟩, h1, h2⟩ := h
    cases h2
    cases hv with
    | tup hl hv =>
      rename_i vs us
      obtain ⟨Gs, j1, j2, j3, j4, j5, j6⟩ := give1s_sound hm h1 hl hv
      obtain ⟨d1, d2⟩ := done j5 j6
      exact ⟨_, .tup j1 j2 j3, by rw [j4]; exact d1, by rw [j4]; exact d2⟩
  · obtain ⟨k1, k2, k3⟩ := give1_sound hm h hv
    obtain ⟨d1, d2⟩ := done k2 k3
    exact ⟨_, .one k1, d1, d2⟩
def resM (tmps : Array Value) (r : ResultVar) : Sem Value :=
  match r with
  | .tmp t => pure (tmps.getD t undef)
  | .cell a t => do loadVar t (← asAddr (tmps.getD a undef))
theorem results_eq (fn : Func) (tmps : Array Value) : results fn tmps = (do
    let vs ← fn.results.mapM (resM tmps)
    pure (if h : vs.size = 1 then vs[0] else .tuple vs)) := rfl
theorem resVs_sound {st : Bool} (hst : w0.st = st) (hr : Rel P w0 φ σ a w) : ∀ {rs : List ResultVar} {vs : List V}, resVs P st σ rs = some vs → ∃ us : List Value, (rs.mapM (resM a.tmps)).run P w = .ok us w ∧ us.length = vs.length ∧
    ∀ (i : Nat) (v : V) (u : Value), vs[i]? = some v → us[i]? = some u → σ.vr w0.R φ w v u
  | [], vs, h => by
    simp [resVs] at h
    subst h
    exact ⟨[], by simp, rfl, fun i v u h => by simp at h⟩
  | r :: rs, vs, h => by
    unfold resVs at h
    split at h
    · rename_i v vs' h1 h2
      cases h
      obtain ⟨us, k1, k2, k3⟩ := resVs_sound hst hr h2
      obtain ⟨u, j1, j2⟩ : ∃ u, (resM a.tmps r).run P w = .ok u w ∧ σ.vr w0.R φ w v u := by
        cases r with
        | tmp t =>
          simp [resV] at h1
          subst h1
          exact ⟨_, rfl, hr.eval (.tmp t)⟩
        | cell c t =>
          obtain ⟨Fs, hm⟩ := hr.mem
          have hc := hr.eval (.tmp c)
          obtain ⟨u, q1, q2⟩ := loadV_sound (v := a.eval (.tmp c)) hst h1 hm hc
          refine ⟨u, ?_, q2⟩
          simp only [resM, Sem.run_bind]
          have hcv : ∃ p, a.tmps.getD c undef = .pointer (some p) := by
            have e : a.eval (.tmp c) = a.tmps.getD c undef := rfl
            rw [e] at q1
            cases hv : a.tmps.getD c undef with
            | pointer p => cases p with
              | some p => exact ⟨p, rfl⟩
              | none => rw [hv] at q1; simp [Instr.loadAt, Instr.sureAddr, stuck] at q1
            | _ => rw [hv] at q1; simp [Instr.loadAt, Instr.sureAddr, stuck] at q1
          obtain ⟨p, hp⟩ := hcv
          have e : a.eval (.tmp c) = a.tmps.getD c undef := rfl
          rw [e, hp] at q1
          rw [hp]
          simp [Instr.loadAt, Instr.sureAddr] at q1
          simp [asAddr, q1]
      refine ⟨u :: us, ?_, by simp [k2], fun i v' u' hv hu => ?_⟩
      · simp only [List.mapM_cons, Sem.run_bind]
        rw [j1]
        simp only [Result.andThen_ok, k1, Sem.run_pure]
      · match i with
        | 0 => simp at hv hu; subst hv hu; exact j2
        | i + 1 => exact k3 i v' u' (by simpa using hv) (by simpa using hu)
    · cases h
/-- Several results as one. -/
def joinV (vs : List V) : V :=
  match vs with
  | [v] => v
  | vs => .tup vs
theorem run_results {st : Bool} (hst : w0.st = st) (hr : Rel P w0 φ σ a w) {fn : Func} {vs : List V} (h : resVs P st σ fn.results.toList = some vs) : ∃ u, (results fn a.tmps).run P w = .ok u w ∧ σ.vr w0.R φ w (joinV vs) u := by
  obtain ⟨us, k1, k2, k3⟩ := resVs_sound hst hr h
  have hres : (results fn a.tmps).run P w = .ok (if h : us.toArray.size = 1 then us.toArray[0] else .tuple us.toArray) w := by
    rw [results_eq, Array.mapM_eq_mapM_toList]
    simp only [Sem.run_bind, Sem.run_map, k1, Result.andThen_ok, Sem.run_pure]
  unfold joinV
  split
  · rename_i v
    obtain ⟨u, rfl⟩ : ∃ u, us = [u] := by
      match us, k2 with
      | [u], _ => exact ⟨u, rfl⟩
    exact ⟨u, by rw [hres]; simp, k3 0 v u rfl rfl⟩
  · rename_i hn
    refine ⟨.tuple us.toArray, ?_, .tup k2 k3⟩
    rw [hres]
    have : ¬ us.toArray.size = 1 := by
      intro h1
      have h2 : vs.length = 1 := by simpa [k2] using h1
      obtain ⟨v, hv⟩ : ∃ v, vs = [v] := by
        match vs, h2 with
        | [v], _ => exact ⟨v, rfl⟩
      exact hn v hv
    rw [dif_neg this]
theorem ofX_vr {G G' : Nat → Prop} (hG : ∀ b, G b → G' b) {x : X} {v : Value} (h : XRd w G x v) : VR w G' φ sl (ofX x) v := by
  have hk : ∀ b, G b → G' b ∧ ∀ o, w.cell? ⟨b, o, none⟩ = w.cell? ⟨b, o, none⟩ := fun b hb => ⟨hG b hb, fun _ => rfl⟩
  cases h with
  | d h => exact .d (h.mono hk)
  | agg h =>
    rename_i ds us
    have h2 : Rds w G' ds us [] := h.mono hk
    refine .agg (by simpa using h2.2.1) h2.one fun j x u hx hu => ?_
    rw [List.getElem?_map, Option.map_eq_some_iff] at hx
    obtain ⟨d, hd, rfl⟩ := hx
    obtain ⟨u', hu', hr⟩ := h2.2.2 j d hd
    rw [hu] at hu'
    cases hu'
    exact .d hr
/-- A frame at its begin. -/
theorem rel_begin {w0 : Base} (hm : ∃ Fs, MemR P w0 φ sl w Fs) {n : Nat} {xs : List V} {vs : List Value} (hl : vs.length = xs.length) (hv : ∀ (i : Nat) (x : V) (v : Value), xs[i]? = some x → vs[i]? = some v → VR w (good w0.R φ sl w) φ sl x v) :
    Rel P w0 φ ⟨xs ++ List.replicate (n - xs.length) .any, sl⟩ { tmps := vs.toArray ++ Array.replicate (n - vs.toArray.size) undef, defers := [] } w := by
  refine ⟨hm, rfl, by simp [hl], fun i x v hx hv' => ?_⟩
  by_cases hi : i < xs.length
  · rw [List.getElem?_append_left hi] at hx
    rw [Array.getElem?_append_left (by simp; omega)] at hv'
    exact hv i x v hx (by simpa using hv')
  · rw [List.getElem?_append_right (by omega), List.getElem?_replicate] at hx
    split at hx
    · cases hx; exact .any _
    · cases hx
/-- A contract, out of an abstract walk through the function's body. -/
theorem con_ofQ {q : Bool} {f : FuncId} {fn : Func} {c : Code} {xs : List X} {r : X} (hc : callable P f = true) (hf : P.funcs[f]? = some fn) (hb : fn.body = some c) {n : Nat} {rs : List ResultVar} (hn : fn.ntmps = n) (hrs : fn.results.toList = rs) (h : AWp P ⟨0, false, true, q⟩ c (RetA P false rs r) ⟨xs.map ofX ++ List.replicate (n - xs.length) .any, []⟩) : ConC P f xs r := by
  subst hn hrs
  refine ⟨hc, ?_⟩
  intro w vs hl hv
  have hm : MemR P ⟨w, fun _ => False, fun _ => False, [], fun _ => True, false, fun _ _ _ => trivial⟩ [] [] w [] := by
    refine ⟨Kept.refl _ _, ?_, rfl, rfl, by simp, by simp, by simp, fun s x h F hs => by simp at hs⟩
    rintro b ⟨s, x, c, h, _⟩
    simp at h
  have hr := rel_begin (n := fn.ntmps) ⟨_, hm⟩ (xs := xs.map ofX) (vs := vs) (by simpa using hl) (fun i x v hx hv' => by
    rw [List.getElem?_map, Option.map_eq_some_iff] at hx
    obtain ⟨y, hy, rfl⟩ := hx
    exact ofX_vr (fun b hb => ⟨hb, by rintro ⟨s, x, c, h, _⟩; simp at h, trivial⟩) (hv i y v hy hv'))
  rw [List.length_map] at hr
  refine calls_of_wp hf hb (awp_sound (m := ⟨0, false, true, q⟩) rfl (fun _ h => by cases h) (Nat.le_refl _) c h hr fun e φ' σ' a' w' hq hr' => ?_)
  obtain ⟨he, hq⟩ := hq
  obtain ⟨Fs, hm⟩ := hr'.mem
  have fin : ∃ v, (results fn a'.tmps).run P w' = .ok v w' ∧ ∃ v' F, Ending.returned v = .returned v' ∧ XRes P w' r v' F ∧ F.Nodup ∧ (∀ g ∈ F, w.heap.size ≤ g) ∧ Below w.heap.size w w' := by
    have hbl : Below w.heap.size w w' := hm.only.below (fun _ h => h)
    split at hq
    · rename_i v hvs
      obtain ⟨ks, hg⟩ := hq
      obtain ⟨u, k1, k2⟩ := run_results rfl hr' hvs
      obtain ⟨F, g1, g2, g3⟩ := gives_sound hm hg k2
      exact ⟨u, k1, u, F, rfl, g1, g2, fun g hg => (g3 g hg).resolve_left (fun h => h), hbl⟩
    · rename_i vs hn hvs
      obtain ⟨ks, hg⟩ := hq
      obtain ⟨u, k1, k2⟩ := run_results rfl hr' hvs
      have hj : joinV vs = .tup vs := by
        unfold joinV
        split
        · exact absurd rfl (hn _)
        · rfl
      rw [hj] at k2
      obtain ⟨F, g1, g2, g3⟩ := gives_sound hm hg k2
      exact ⟨u, k1, u, F, rfl, g1, g2, fun g hg => (g3 g hg).resolve_left (fun h => h), hbl⟩
    · exact hq.elim
  rcases he with rfl | rfl
  · obtain ⟨v, h1, h2⟩ := fin
    exact ⟨hr'.defers, v, h1, h2⟩
  · obtain ⟨v, h1, h2⟩ := fin
    exact ⟨hr'.defers, v, h1, h2⟩
theorem con_of {f : FuncId} {fn : Func} {c : Code} {xs : List X} {r : X} (hc : callable P f = true) (hf : P.funcs[f]? = some fn) (hb : fn.body = some c) {n : Nat} {rs : List ResultVar} (hn : fn.ntmps = n) (hrs : fn.results.toList = rs) (h : AWp P ⟨0, false, true, false⟩ c (RetA P false rs r) ⟨xs.map ofX ++ List.replicate (n - xs.length) .any, []⟩) : ConC P f xs r := con_ofQ hc hf hb hn hrs h
theorem con_ofD {f : FuncId} {fn : Func} {c : Code} {xs : List X} {r : X} (hc : callable P f = true) (hf : P.funcs[f]? = some fn) (hb : fn.body = some c) {n : Nat} {rs : List ResultVar} (hn : fn.ntmps = n) (hrs : fn.results.toList = rs) (h : AWp P ⟨0, false, true, true⟩ c (RetA P false rs r) ⟨xs.map ofX ++ List.replicate (n - xs.length) .any, []⟩) : ConC P f xs r := con_ofQ hc hf hb hn hrs h
/-- The function's result and the slots behind it; the first n keep their places. -/
def RetT (P : Program) (n : Nat) (rs : List ResultVar) (r : V) (sl' : List Slot) (e : Exit) (σ : St) : Prop :=
  (e = .ret ∨ e = .normal) ∧ ∃ vs, resVs P false σ rs = some vs ∧ ∃ π : List Nat, π.Nodup ∧ isPin n π 0 = true ∧ leSlots false σ.slots π π sl' ∧ leT false σ.slots π (joinV vs) r
/-- The same where nothing of a slot is read as data, and calls may write over what slots own. -/
theorem con_ofS {f : FuncId} {fn : Func} {c : Code} {xs : List X} {r : X} (hc : callable P f = true) (hf : P.funcs[f]? = some fn) (hb : fn.body = some c) {n : Nat} {rs : List ResultVar} (hn : fn.ntmps = n) (hrs : fn.results.toList = rs) (h : AWp P ⟨0, true, true, false⟩ c (RetA P true rs r) ⟨xs.map ofX ++ List.replicate (n - xs.length) .any, []⟩) : ConC P f xs r := by
  subst hn hrs
  refine ⟨hc, ?_⟩
  intro w vs hl hv
  have hm : MemR P ⟨w, fun _ => False, fun _ => False, [], (· < w.heap.size), true, by simp⟩ [] [] w [] := by
    refine ⟨Kept.refl _ _, ?_, rfl, rfl, by simp, by simp, by simp, fun s x h F hs => by simp at hs⟩
    rintro b ⟨s, x, c, h, _⟩
    simp at h
  have hr := rel_begin (n := fn.ntmps) ⟨_, hm⟩ (xs := xs.map ofX) (vs := vs) (by simpa using hl) (fun i x v hx hv' => by
    rw [List.getElem?_map, Option.map_eq_some_iff] at hx
    obtain ⟨y, hy, rfl⟩ := hx
    exact ofX_vr (fun b hb => ⟨hb, by rintro ⟨s, x, c, h, _⟩; simp at h, hb⟩) (hv i y v hy hv'))
  rw [List.length_map] at hr
  refine calls_of_wp hf hb (awp_sound (m := ⟨0, true, true, false⟩) rfl (fun _ _ => ⟨fun b hb => ⟨hb, fun h => h⟩, fun b hb => hb⟩) (Nat.le_refl _) c h hr fun e φ' σ' a' w' hq hr' => ?_)
  obtain ⟨he, hq⟩ := hq
  obtain ⟨Fs, hm⟩ := hr'.mem
  have fin : ∃ v, (results fn a'.tmps).run P w' = .ok v w' ∧ ∃ v' F, Ending.returned v = .returned v' ∧ XRes P w' r v' F ∧ F.Nodup ∧ (∀ g ∈ F, w.heap.size ≤ g) ∧ Below w.heap.size w w' := by
    have hbl : Below w.heap.size w w' := hm.only.below (fun _ h => h)
    split at hq
    · rename_i v hvs
      obtain ⟨ks, hg⟩ := hq
      obtain ⟨u, k1, k2⟩ := run_results rfl hr' hvs
      obtain ⟨F, g1, g2, g3⟩ := gives_sound hm hg k2
      exact ⟨u, k1, u, F, rfl, g1, g2, fun g hg => (g3 g hg).resolve_left (fun h => h), hbl⟩
    · rename_i vs hn hvs
      obtain ⟨ks, hg⟩ := hq
      obtain ⟨u, k1, k2⟩ := run_results rfl hr' hvs
      have hj : joinV vs = .tup vs := by
        unfold joinV
        split
        · exact absurd rfl (hn _)
        · rfl
      rw [hj] at k2
      obtain ⟨F, g1, g2, g3⟩ := gives_sound hm hg k2
      exact ⟨u, k1, u, F, rfl, g1, g2, fun g hg => (g3 g hg).resolve_left (fun h => h), hbl⟩
    · exact hq.elim
  rcases he with rfl | rfl
  · obtain ⟨v, h1, h2⟩ := fin
    exact ⟨hr'.defers, v, h1, h2⟩
  · obtain ⟨v, h1, h2⟩ := fin
    exact ⟨hr'.defers, v, h1, h2⟩
theorem conT_ofQ {q : Bool} {f : FuncId} {fn : Func} {c : Code} {xs : List V} {sl : List Slot} {r : V} {sl' : List Slot} (hc : callable P f = true) (hf : P.funcs[f]? = some fn) (hb : fn.body = some c) {n : Nat} {rs : List ResultVar} (hn : fn.ntmps = n) (hrs : fn.results.toList = rs) (hlat : laters sl sl') (hlv : lives sl)
    (h : AWp P ⟨sl.length, false, true, q⟩ c (RetT P sl.length rs r sl') ⟨xs ++ List.replicate (n - xs.length) .any, sl⟩) : ConT P f xs sl r sl' := by
  subst hn hrs
  refine ⟨hc, hlat, ?_⟩
  intro w φ Fs R hR vs hm hl hv
  have hr := rel_begin (n := fn.ntmps) ⟨_, hm⟩ hl hv
  refine calls_of_wp hf hb (awp_sound (m := ⟨sl.length, false, true, q⟩) rfl (fun _ h => by cases h) (Nat.le_of_eq hm.flen) c h hr fun e φ' σ' a' w' hq hr' => ?_)
  obtain ⟨he, us, hus, π, hn, hpn, hsl, hrr⟩ := hq
  obtain ⟨u, k1, k2⟩ := run_results rfl hr' hus
  have fin : ∃ φ2 Fs2, MemR P ⟨w, top φ sl, (· ∈ Fs.flatten), φ, R, false, hR⟩ φ2 sl' w' Fs2 ∧ VR w' (good R φ2 sl' w') φ2 sl' r u := by
    -- the result among the temporaries
    unfold leT at hrr
    split at hrr
    · rename_i ys
      obtain ⟨xs', hj, hle⟩ := hrr
      rw [hj] at k2
      cases k2 with
      | tup hl2 hv2 =>
        rename_i us'
        obtain ⟨Fs1, hm1⟩ := hr'.mem
        have hr1 : Rel P ⟨w, top φ sl, (· ∈ Fs.flatten), φ, R, false, hR⟩ φ' ⟨xs', σ'.slots⟩ { tmps := us'.toArray, defers := [] } w' :=
          ⟨⟨Fs1, hm1⟩, rfl, by simpa using hl2, fun i x v hx hv' => hv2 i x v hx (by simpa using hv')⟩
        obtain ⟨φ2, hr2⟩ := hr1.le (m := ⟨sl.length, false, true, q⟩) (σ' := ⟨ys, sl'⟩) rfl (Nat.le_of_eq hm.flen) ⟨π, hn, hpn, hsl, hle⟩
        obtain ⟨Fs2, hm2⟩ := hr2.mem
        refine ⟨φ2, Fs2, hm2, .tup (by have := hr2.tlen; simpa using this) fun i x v hx hv' => hr2.tmps i x v hx (by simpa using hv')⟩
    · obtain ⟨Fs1, hm1⟩ := hr'.mem
      have hr1 : Rel P ⟨w, top φ sl, (· ∈ Fs.flatten), φ, R, false, hR⟩ φ' ⟨[joinV us], σ'.slots⟩ { tmps := #[u], defers := [] } w' := by
        refine ⟨⟨Fs1, hm1⟩, rfl, rfl, fun i x v hx hv' => ?_⟩
        match i with
        | 0 => simp at hx hv'; subst hx hv'; exact k2
        | i + 1 => simp at hx
      obtain ⟨φ2, hr2⟩ := hr1.le (m := ⟨sl.length, false, true, q⟩) (σ' := ⟨[r], sl'⟩) rfl (Nat.le_of_eq hm.flen) ⟨π, hn, hpn, hsl, hrr, trivial⟩
      obtain ⟨Fs2, hm2⟩ := hr2.mem
      exact ⟨φ2, Fs2, hm2, hr2.tmps 0 r u rfl rfl⟩
  obtain ⟨φ2, Fs2, f1, f2⟩ := fin
  rcases he with rfl | rfl
  · exact ⟨hr'.defers, u, k1, u, φ2, Fs2, rfl, f1, f2⟩
  · exact ⟨hr'.defers, u, k1, u, φ2, Fs2, rfl, f1, f2⟩
theorem conT_of {f : FuncId} {fn : Func} {c : Code} {xs : List V} {sl : List Slot} {r : V} {sl' : List Slot} (hc : callable P f = true) (hf : P.funcs[f]? = some fn) (hb : fn.body = some c) {n : Nat} {rs : List ResultVar} (hn : fn.ntmps = n) (hrs : fn.results.toList = rs) (hlat : laters sl sl') (hlv : lives sl)
    (h : AWp P ⟨sl.length, false, true, false⟩ c (RetT P sl.length rs r sl') ⟨xs ++ List.replicate (n - xs.length) .any, sl⟩) : ConT P f xs sl r sl' := conT_ofQ hc hf hb hn hrs hlat hlv h
theorem conT_ofD {f : FuncId} {fn : Func} {c : Code} {xs : List V} {sl : List Slot} {r : V} {sl' : List Slot} (hc : callable P f = true) (hf : P.funcs[f]? = some fn) (hb : fn.body = some c) {n : Nat} {rs : List ResultVar} (hn : fn.ntmps = n) (hrs : fn.results.toList = rs) (hlat : laters sl sl') (hlv : lives sl)
    (h : AWp P ⟨sl.length, false, true, true⟩ c (RetT P sl.length rs r sl') ⟨xs ++ List.replicate (n - xs.length) .any, sl⟩) : ConT P f xs sl r sl' := conT_ofQ hc hf hb hn hrs hlat hlv h
/-- The result is a number; the slots are those of before, written over. -/
def RetW (P : Program) (n : Nat) (rs : List ResultVar) (k : Int) (sl' : List Slot) (e : Exit) (σ : St) : Prop :=
  (e = .ret ∨ e = .normal) ∧ resVs P true σ rs = some [.d (.int .i64 k)] ∧ ∃ π : List Nat, π.Nodup ∧ isPin n π 0 = true ∧ leSlots true σ.slots π π sl'
theorem conW_of {f : FuncId} {fn : Func} {c : Code} {xs : List V} {sl : List Slot} {k : Int} {sl' : List Slot} (hc : callable P f = true) (hf : P.funcs[f]? = some fn) (hb : fn.body = some c) {n : Nat} {rs : List ResultVar} (hn : fn.ntmps = n) (hrs : fn.results.toList = rs) (hlk : allLike sl sl')
    (h : AWp P ⟨sl.length, true, true, false⟩ c (RetW P sl.length rs k sl') ⟨xs ++ List.replicate (n - xs.length) .any, sl⟩) : ConW P f xs sl k sl' := by
  subst hn hrs
  refine ⟨hc, hlk, ?_⟩
  intro w φ Fs R hR vs hm hl hv
  have hr := rel_begin (n := fn.ntmps) ⟨_, hm⟩ hl hv
  refine calls_of_wp hf hb (awp_sound (m := ⟨sl.length, true, true, false⟩) rfl (fun _ _ => ⟨hR, fun b hb => hb⟩) (Nat.le_of_eq hm.flen) c h hr fun e φ' σ' a' w' hq hr' => ?_)
  obtain ⟨he, hus, π, hn, hpn, hsl⟩ := hq
  obtain ⟨u, k1, k2⟩ := run_results rfl hr' hus
  have hu : u = .int .i64 k := by
    cases k2 with
    | d h => cases h; rfl
  subst hu
  have fin : ∃ Fs2, MemR P ⟨w, (· ∈ Fs.flatten), (· ∈ Fs.flatten), φ, R, true, by simp⟩ φ sl' w' Fs2 := by
    obtain ⟨Fs1, hm1⟩ := hr'.mem
    have hr1 : Rel P ⟨w, (· ∈ Fs.flatten), (· ∈ Fs.flatten), φ, R, true, by simp⟩ φ' ⟨[], σ'.slots⟩ { tmps := #[], defers := [] } w' :=
      ⟨⟨Fs1, hm1⟩, rfl, rfl, fun i x v hx => by simp at hx⟩
    obtain ⟨φ2, hr2⟩ := hr1.le (m := ⟨sl.length, true, true, false⟩) (σ' := ⟨[], sl'⟩) rfl (Nat.le_of_eq hm.flen) ⟨π, hn, hpn, hsl, trivial⟩
    obtain ⟨Fs2, hm2⟩ := hr2.mem
    have e : φ2 = φ := by
      apply List.ext_getElem?
      intro i
      by_cases hi : i < φ.length
      · have h1 : φ[i]? = some φ[i] := List.getElem?_eq_getElem hi
        rw [h1]
        exact (hm2.pin i _ h1).1
      · have hl2 := hm2.flen
        have hl3 := (allLike_at hlk).1
        have hl4 := hm.flen
        simp only at hl2
        rw [List.getElem?_eq_none (by omega), List.getElem?_eq_none (by omega)]
    subst e
    exact ⟨Fs2, hm2⟩
  rcases he with rfl | rfl
  · exact ⟨hr'.defers, _, k1, rfl, fin⟩
  · exact ⟨hr'.defers, _, k1, rfl, fin⟩
end
end Go.Proofs.Ytojhjcgalmaljaa
