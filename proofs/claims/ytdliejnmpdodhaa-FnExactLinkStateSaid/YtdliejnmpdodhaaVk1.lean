/-
  Fewer slots, under other numbers: a state that says less belongs to the memory too. Plain lemmas, about no function of the program.
  Conditions: those typed in each theorem.
-/
import Derived.Test.YtdliejnmpdodhaaVk
namespace Go.Proofs.Ytdliejnmpdodhaa
open Go.RowKit Go.ChangeShapes Go.WideShapes
set_option linter.unusedVariables false

section
variable {P : Program} {w0 : Base} {w w' : World} {φ φ' : Hdrs} {σ σ' : St} {a : Act} {sl sl' : List Slot} {Fs Fs' : List (List Nat)} {st : Bool} {π : List Nat}
theorem leSlots_at : ∀ {ks : List Nat} {ys : List Slot}, leSlots st sl π ks ys → ks.length = ys.length ∧ ∀ (i k : Nat) (y : Slot), ks[i]? = some k → ys[i]? = some y → ∃ x, sl[k]? = some x ∧ leS st sl π x y
  | [], [], _ => ⟨rfl, fun i k y h => by simp at h⟩
  | [], _ :: _, h => h.elim
  | _ :: _, [], h => h.elim
  | k :: ks, y :: ys, h => by
    obtain ⟨h1, h2⟩ := h
    obtain ⟨k1, k2⟩ := leSlots_at h2
    refine ⟨by simp [k1], fun i k' y' hk hy => ?_⟩
    match i with
    | 0 => simp at hk hy; subst hk hy; exact h1
    | i + 1 => exact k2 i k' y' (by simpa using hk) (by simpa using hy)
theorem le0s_at : ∀ {xs ys : List V}, le0s st sl π xs ys → xs.length = ys.length ∧ ∀ (i : Nat) (y : V), ys[i]? = some y → ∃ x, xs[i]? = some x ∧ le0 st sl π x y
  | [], [], _ => ⟨rfl, fun i y h => by simp at h⟩
  | [], _ :: _, h => h.elim
  | _ :: _, [], h => h.elim
  | x :: xs, y :: ys, h => by
    obtain ⟨h1, h2⟩ := h
    obtain ⟨k1, k2⟩ := le0s_at h2
    refine ⟨by simp [k1], fun i y' hy => ?_⟩
    match i with
    | 0 => simp at hy; subst hy; exact ⟨x, rfl, h1⟩
    | i + 1 => simpa using k2 i y' (by simpa using hy)
theorem leTmps_at : ∀ {xs ys : List V}, leTmps st sl π xs ys → xs.length = ys.length ∧ ∀ (i : Nat) (y : V), ys[i]? = some y → ∃ x, xs[i]? = some x ∧ leV st sl π x y
  | [], [], _ => ⟨rfl, fun i y h => by simp at h⟩
  | [], _ :: _, h => h.elim
  | _ :: _, [], h => h.elim
  | x :: xs, y :: ys, h => by
    obtain ⟨h1, h2⟩ := h
    obtain ⟨k1, k2⟩ := leTmps_at h2
    refine ⟨by simp [k1], fun i y' hy => ?_⟩
    match i with
    | 0 => simp at hy; subst hy; exact ⟨x, rfl, h1⟩
    | i + 1 => simpa using k2 i y' (by simpa using hy)
/-- The headers of the slots that are kept. -/
def keepH {α : Type} (π : List Nat) (φ : List α) (d : α) : List α := π.map fun k => (φ[k]?).getD d
theorem keepH_at {α : Type} {φ : List α} {d : α} {i k : Nat} {h : α} (hk : π[i]? = some k) (hh : φ[k]? = some h) : (keepH π φ d)[i]? = some h := by
  unfold keepH
  rw [List.getElem?_map, hk]
  simp [hh]
/-- The same place, and the same elements. -/
def SameS : Slot → Slot → Prop
  | .arr t _ es, .arr t' _ es' => t = t' ∧ es = es'
  | .var t _, .var t' _ => t = t'
  | _, _ => False
theorem leS_same {x y : Slot} (h : leS st sl π x y) : y = .dead ∨ SameS x y := by
  unfold leS at h
  split at h
  · exact .inl rfl
  · exact h.elim
  · rcases h with rfl | ⟨rfl, _, rfl⟩
    · exact .inr ⟨rfl, rfl⟩
    · exact .inr ⟨rfl, rfl⟩
  · obtain ⟨_, rfl, _⟩ := h
    exact .inr rfl
theorem SameS.live {x y : Slot} (h : SameS x y) : x.live ∧ y.live := by
  cases x <;> cases y <;> simp_all [SameS, Slot.live]
structure Gc (π : List Nat) (φ : Hdrs) (sl : List Slot) (φ' : Hdrs) (sl' : List Slot) : Prop where
  at_ : ∀ (i k : Nat), π[i]? = some k → ∃ x y h, sl[k]? = some x ∧ sl'[i]? = some y ∧ φ[k]? = some h ∧ φ'[i]? = some h ∧ (y = .dead ∨ SameS x y)
  len : π.length = sl'.length
theorem gc_top (hg : Gc π φ sl φ' sl') {b : Nat} (h : top φ' sl' b) : ∃ (k : Nat) (x : Slot) (c : Nat), k ∈ π ∧ sl[k]? = some x ∧ x.live ∧ φ[k]? = some (some b, c) := by
  obtain ⟨s, y, c, h1, h2, h3⟩ := h
  have hs : s < π.length := by rw [hg.len]; exact (List.getElem?_eq_some_iff.1 h1).1
  obtain ⟨x, y', hd, k1, k2, k3, k4, k5⟩ := hg.at_ s _ (List.getElem?_eq_getElem hs)
  rw [h1] at k2
  cases k2
  rw [h3] at k4
  cases k4
  rcases k5 with rfl | k5
  · exact h2.elim
  · exact ⟨_, x, c, List.getElem_mem hs, k1, k5.live.1, k3⟩
theorem ren0_vr (hg : Gc π φ sl φ' sl') {G G' : Nat → Prop} (hG : ∀ b, G b → G' b) {x y : V} {v : Value} (h : ren0 π y = some x) (hx : VR w G φ sl x v) : VR w G' φ' sl' y v := by
  have hk : ∀ b, G b → G' b ∧ ∀ o, w.cell? ⟨b, o, none⟩ = w.cell? ⟨b, o, none⟩ := fun b hb => ⟨hG b hb, fun _ => rfl⟩
  unfold ren0 at h
  split at h
  · rw [Option.map_eq_some_iff] at h
    obtain ⟨k, hi, rfl⟩ := h
    obtain ⟨x, y, hd, j1, j2, j3, j4, j5⟩ := hg.at_ _ _ hi
    have ho := hx.one rfl
    rcases j5 with rfl | j5
    · exact .gone j2 ho
    · cases hx with
      | gone h1 => rw [j1] at h1; cases h1; exact absurd j5.live.1 (by simp [Slot.live])
      | ref h1 h2 =>
        rw [j1] at h1
        cases h1
        rw [j3] at h2
        cases h2
        cases y <;> simp only [SameS] at j5
        obtain ⟨rfl, rfl⟩ := j5
        exact .ref j2 j4
  · rw [Option.map_eq_some_iff] at h
    obtain ⟨k, hi, rfl⟩ := h
    obtain ⟨x, y, hd, j1, j2, j3, j4, j5⟩ := hg.at_ _ _ hi
    have ho := hx.one rfl
    rcases j5 with rfl | j5
    · exact .litgone j2 ho
    · cases hx with
      | litgone h1 => rw [j1] at h1; cases h1; exact absurd j5.live.1 (by simp [Slot.live])
      | lit h1 h2 =>
        rw [j1] at h1
        cases h1
        rw [j3] at h2
        cases h2
        cases y <;> simp only [SameS] at j5
        exact .lit j2 j4
  · rw [Option.map_eq_some_iff] at h
    obtain ⟨k, hi, rfl⟩ := h
    obtain ⟨x, y, hd, j1, j2, j3, j4, j5⟩ := hg.at_ _ _ hi
    have ho := hx.one rfl
    rcases j5 with rfl | j5
    · exact .lost j2 ho
    · cases hx with
      | lost h1 => rw [j1] at h1; cases h1; exact absurd j5.live.1 (by simp [Slot.live])
      | ptr h1 h2 h3 =>
        rw [j3] at h3
        cases h3
        exact .ptr j2 j5.live.2 j4
  · rw [Option.map_eq_some_iff] at h
    obtain ⟨k, hi, rfl⟩ := h
    obtain ⟨x, y, hd, j1, j2, j3, j4, j5⟩ := hg.at_ _ _ hi
    have ho := hx.one rfl
    rcases j5 with rfl | j5
    · exact .elost j2 ho
    · cases hx with
      | elost h1 => rw [j1] at h1; cases h1; exact absurd j5.live.1 (by simp [Slot.live])
      | eptr h1 h2 =>
        rw [j1] at h1
        cases h1
        rw [j3] at h2
        cases h2
        cases y <;> simp only [SameS] at j5
        exact .eptr j2 j4
  · cases h; cases hx; exact .nil _
  · cases h; cases hx with | d hx => exact .d (hx.mono hk)
  · cases h; cases hx with | cptr u hG' hc hr => exact .cptr u (hG _ hG') hc (fun j d hd => (hr j d hd).mono hk)
  · exact .any _
  · cases h
theorem ren0s_at : ∀ {ys xs : List V}, ren0s π ys = some xs → xs.length = ys.length ∧ ∀ (i : Nat) (y : V), ys[i]? = some y → ∃ x, xs[i]? = some x ∧ ren0 π y = some x
  | [], xs, h => by simp [ren0s] at h; subst h; exact ⟨rfl, fun i y h => by simp at h⟩
  | y :: ys, xs, h => by
    unfold ren0s at h
    split at h
    · rename_i x xs' h1 h2
      cases h
      obtain ⟨k1, k2⟩ := ren0s_at h2
      refine ⟨by simp [k1], fun i y' hy => ?_⟩
      match i with
      | 0 => simp at hy; subst hy; exact ⟨x, rfl, h1⟩
      | i + 1 => simpa using k2 i y' (by simpa using hy)
    · cases h
theorem cnt_keep (q : Nat) : ∀ {Fs : List (List Nat)}, π.Nodup → (∀ k ∈ π, k < Fs.length) → cnt q (keepH π Fs []) ≤ cnt q Fs := by
  intro Fs hn hl
  have := cnt_killF q hn hl
  have e : keepH π Fs [] = π.map fun k => (Fs[k]?).getD [] := rfl
  have e2 : cnt q (keepH π Fs []) = (ofSlots Fs π).count q := by rw [e]; rfl
  omega
/-- What a slot that says less owns. -/
def cutF : Slot → List Nat → List Nat
  | .dead, _ => []
  | .unborn, _ => []
  | .arr _ false _, F => F.take 1
  | _, F => F
theorem cutF_count (y : Slot) (F : List Nat) (q : Nat) : (cutF y F).count q ≤ F.count q := by
  unfold cutF
  split
  · simp
  · simp
  · exact (List.take_sublist 1 F).count_le q
  · exact Nat.le_refl _
theorem cnt_cut (q : Nat) : ∀ (ys : List Slot) (Gs : List (List Nat)), cnt q (List.zipWith cutF ys Gs) ≤ cnt q Gs
  | [], Gs => by simp [cnt]
  | y :: ys, [] => by simp [cnt]
  | y :: ys, G :: Gs => by
    have := cnt_cut q ys Gs
    have := cutF_count y G q
    simp [cnt] at *
    omega
/-- A row, however it is owned, as a row that is read. -/
theorem row_weaken (hm : MemR P w0 φ sl w Fs) {s : Nat} {t : TypeId} {ow : Bool} {es : List (List D)} {hd : Option Nat × Nat} {F : List Nat} {G : Nat → Prop} (hs : sl[s]? = some (.arr t ow es)) (hp : φ[s]? = some hd) (hF : Fs[s]? = some F)
    (hG : ∀ b, good w0.R φ sl w b → G b) (hX : ow = true → w0.st = false) : RowOf P w (Rds w G) t es hd.1 hd.2 (F.take 1) := by
  have hrep : ∀ k : Nat, (List.replicate k ([] : List Nat)).flatten = [] := fun k => by induction k with | zero => rfl | succ k ih => simp [List.replicate_succ, ih]
  have hnd := nodup_of_flat hm.nd (List.mem_of_getElem? hF)
  have hsr := hm.sr s _ hd F hs hp hF
  have fin : ∀ {R : List D → List Value → List Nat → Prop}, RowOf P w R t es hd.1 hd.2 F → (∀ e cs f, (∀ q ∈ f, q ∈ F ∧ hd.1 ≠ some q) → R e cs f → ∃ f', Rds w G e cs f') → RowOf P w (Rds w G) t es hd.1 hd.2 (F.take 1) := by
    intro R hr hR
    obtain ⟨q1, q2, ⟨e1, e2, rfl⟩ | ⟨g, cur, Gs, e1, q3, q4, q5, q6, q7, rfl⟩⟩ := hr
    · exact ⟨q1, q2, .inl ⟨e1, e2, rfl⟩⟩
    · refine ⟨q1, q2, .inr ⟨g, cur, List.replicate es.length [], e1, q3, q4, by simp, q6, fun i x f hx hf => ?_, by rw [hrep]; rfl⟩⟩
      have hil := (List.getElem?_eq_some_iff.1 hx).1
      rw [List.getElem?_replicate, if_pos hil] at hf
      cases hf
      have hf : Gs[i]? = some (Gs[i]'(by omega)) := List.getElem?_eq_getElem _
      obtain ⟨f', r1, r2, r3⟩ := hR _ _ _ (fun q hq => ⟨List.mem_cons_of_mem _ (mem_flat hf hq), fun e => by rw [e1] at e; cases e; exact (List.nodup_cons.1 hnd).1 (mem_flat hf hq)⟩) (q7 i x _ hx hf)
      exact ⟨rfl, r2, r3⟩
  cases ow with
  | false => exact fin hsr fun e cs f _ hr => ⟨f, hr.mono fun b hb => ⟨hG b hb, fun _ => rfl⟩⟩
  | true =>
    refine fin hsr fun e cs f hq ho => ⟨[], ho.rds fun q hqf => hG q ⟨ho.lt q hqf, ?_, hm.rd (hX rfl) (mem_flat hF (hq q hqf).1)⟩⟩
    rintro ⟨s2, x2, c2, j1, j2, j3⟩
    obtain ⟨hd2, F2, j4, j5, j6⟩ := hm.at_ j1
    rw [j3] at j4
    cases j4
    by_cases hss : s2 = s
    · subst hss
      rw [hp] at j3
      cases j3
      exact (hq q hqf).2 rfl
    · exact flat_disj hm.nd hF j5 (fun e => hss e.symm) q (hq q hqf).1 (j6.head j2)
/-- Fewer slots: what they hold, what a value is. -/
structure Less (P : Program) (φ' : Hdrs) (sl' : List Slot) (w : World) (Fs' : List (List Nat)) (G : Nat → Prop) : Prop where
  flen : φ'.length = sl'.length
  Flen : Fs'.length = sl'.length
  sr : ∀ (s : Nat) (x : Slot) (h : Option Nat × Nat) (F : List Nat), sl'[s]? = some x → φ'[s]? = some h → Fs'[s]? = some F → SR P w G φ' sl' x h F
theorem le_core (hst : w0.st = st) (hm : MemR P w0 φ sl w Fs) (hn : π.Nodup) (hs : leSlots st sl π π sl') {G : Nat → Prop} (hG : ∀ b, good w0.R φ sl w b → G b)
    (hX : st = false → ∀ b, good w0.R (keepH π φ (none, 0)) sl' w b → G b) :
    Gc π φ sl (keepH π φ (none, 0)) sl' ∧ Less P (keepH π φ (none, 0)) sl' w (List.zipWith cutF sl' (keepH π Fs [])) G ∧
    (∀ (x y : V) (v : Value), leV st sl π x y → VR w (good w0.R φ sl w) φ sl x v → VR w G (keepH π φ (none, 0)) sl' y v) := by
  obtain ⟨s1, s2⟩ := leSlots_at hs
  have hkl : ∀ k ∈ π, k < sl.length := fun k hk => by
    obtain ⟨i, hi, rfl⟩ := List.mem_iff_getElem.1 hk
    obtain ⟨x, hx, _⟩ := s2 i _ _ (List.getElem?_eq_getElem hi) (List.getElem?_eq_getElem (by omega))
    exact (List.getElem?_eq_some_iff.1 hx).1
  have hg : Gc π φ sl (keepH π φ (none, 0)) sl' := ⟨fun i k hk => by
    have hi : i < sl'.length := by rw [← s1]; exact (List.getElem?_eq_some_iff.1 hk).1
    obtain ⟨x, hx, hr⟩ := s2 i k _ hk (List.getElem?_eq_getElem hi)
    have hh : φ[k]? = some (φ[k]'(by rw [hm.flen]; exact (List.getElem?_eq_some_iff.1 hx).1)) := List.getElem?_eq_getElem _
    exact ⟨x, _, _, hx, List.getElem?_eq_getElem hi, hh, keepH_at hk hh, leS_same hr⟩, s1⟩
  -- blocks of a slot that is not kept are good ones now
  have hfz : ∀ (s : Nat) (F : List Nat), st = false → s ∉ π → Fs[s]? = some F → ∀ b ∈ F, G b := by
    intro s F h0 hsp hF b hb
    refine hX h0 b ⟨hm.lt b (mem_flat hF hb), fun ht => ?_, hm.rd (hst.trans h0) (mem_flat hF hb)⟩
    obtain ⟨k, x, c, k1, k2, k3, k4⟩ := gc_top hg ht
    obtain ⟨hd2, F2, k5, k6, k7⟩ := hm.at_ k2
    rw [k4] at k5
    cases k5
    exact flat_disj hm.nd hF k6 (fun e => hsp (e ▸ k1)) b hb (k7.head k3)
  have v0 : ∀ (x y : V) (v : Value), le0 st sl π x y → VR w (good w0.R φ sl w) φ sl x v → VR w G (keepH π φ (none, 0)) sl' y v := by
    intro x y v h hx
    rcases h with rfl | h | ⟨d, rfl, h0, hp, hsp⟩
    · exact .any _
    · exact ren0_vr hg hG h hx
    · exact .d (presD_rd hp hm hx hG fun s e F hF b hb => hfz s F h0 (hsp s e) hF b hb)
  have v0s : ∀ {xs ys : List V} {vs : List Value}, le0s st sl π xs ys → vs.length = xs.length → (∀ (i : Nat) (x : V) (v : Value), xs[i]? = some x → vs[i]? = some v → VR w (good w0.R φ sl w) φ sl x v) →
      vs.length = ys.length ∧ ∀ (i : Nat) (y : V) (v : Value), ys[i]? = some y → vs[i]? = some v → VR w G (keepH π φ (none, 0)) sl' y v := by
    intro xs ys vs h hl hv
    obtain ⟨k1, k2⟩ := le0s_at h
    refine ⟨by omega, fun i y v hy hv' => ?_⟩
    obtain ⟨x, hx, hr⟩ := k2 i y hy
    exact v0 x y v hr (hv i x v hx hv')
  refine ⟨hg, ⟨by simp [keepH, s1], by simp [keepH, s1], fun i y hd F h1 h2 h3 => ?_⟩, fun x y v h hx => ?_⟩
  · have hi : i < π.length := by rw [s1]; exact (List.getElem?_eq_some_iff.1 h1).1
    obtain ⟨x, hx, hle⟩ := s2 i _ y (List.getElem?_eq_getElem hi) h1
    obtain ⟨hd2, F2, j1, j2, j3⟩ := hm.at_ hx
    rw [keepH_at (List.getElem?_eq_getElem hi) j1] at h2
    cases h2
    rw [List.getElem?_zipWith, h1, keepH_at (List.getElem?_eq_getElem hi) j2] at h3
    cases h3
    unfold leS at hle
    split at hle
    · rfl
    · exact hle.elim
    · rename_i t ow es
      rcases hle with rfl | ⟨rfl, h0, rfl⟩
      · cases ow with
        | true => exact j3
        | false => exact row_weaken hm hx j1 j2 hG (by simp)
      · exact row_weaken hm hx j1 j2 hG (fun _ => hst.trans h0)
    · rename_i t ys
      obtain ⟨xs, rfl, hr⟩ := hle
      obtain ⟨g, cur, e1, e2, e3, e4, e5⟩ := j3
      obtain ⟨r1, r2⟩ := le0s_at hr
      refine ⟨g, cur, e1, e2, e3, by omega, fun j y v hy hv => ?_⟩
      obtain ⟨x, hx, hrx⟩ := r2 j y hy
      exact ⟨v0 _ _ _ hrx (e5 j x v hx hv).1, (e5 j x v hx hv).2⟩
  · unfold leV at h
    split at h
    · obtain ⟨xs, rfl, hr⟩ := h
      cases hx with
      | agg hl h1 hv => obtain ⟨k1, k2⟩ := v0s hr hl hv; exact .agg k1 h1 k2
    · obtain ⟨xs, rfl, hr⟩ := h
      cases hx with
      | fn hl hv => obtain ⟨k1, k2⟩ := v0s hr hl hv; exact .fn k1 k2
    · exact v0 x y v h hx
theorem isPin_at : ∀ {n : Nat} {π : List Nat} {i : Nat}, isPin n π i = true → ∀ j, j < n → π[j]? = some (i + j)
  | 0, _, _, _, j, h => by omega
  | n + 1, [], _, h, _, _ => by simp [isPin] at h
  | n + 1, k :: ks, i, h, j, hj => by
    simp only [isPin, Bool.and_eq_true, beq_iff_eq] at h
    match j with
    | 0 => simp [h.1]
    | j + 1 =>
      have := isPin_at h.2 j (by omega)
      simp only [List.getElem?_cons_succ, this]
      congr 1
      omega
theorem Rel.le {m : Mode} (hst : w0.st = m.st) (hpin : w0.H.length ≤ m.pin) (h : Rel P w0 φ σ a w) (hle : Le m σ σ') : ∃ φ', Rel P w0 φ' σ' a w := by
  obtain ⟨π, hn, hpn, hs, ht⟩ := hle
  obtain ⟨Fs, hm⟩ := h.mem
  obtain ⟨t1, t2⟩ := leTmps_at ht
  obtain ⟨s1, s2⟩ := leSlots_at hs
  have hkl : ∀ k ∈ π, k < Fs.length := fun k hk => by
    obtain ⟨i, hi, rfl⟩ := List.mem_iff_getElem.1 hk
    obtain ⟨x, hx, _⟩ := s2 i _ _ (List.getElem?_eq_getElem hi) (List.getElem?_eq_getElem (by omega))
    rw [hm.Flen]
    exact (List.getElem?_eq_some_iff.1 hx).1
  have hcnt : ∀ q, cnt q (List.zipWith cutF σ'.slots (keepH π Fs [])) ≤ cnt q Fs := fun q => Nat.le_trans (cnt_cut q _ _) (cnt_keep q hn hkl)
  have htop : ∀ {φ' : Hdrs}, Gc π φ σ.slots φ' σ'.slots → ∀ b, top φ' σ'.slots b → top φ σ.slots b := fun hg b hb => by
    obtain ⟨k, x, c, _, k2, k3, k4⟩ := gc_top hg hb
    exact ⟨k, x, c, k2, k3, k4⟩
  obtain ⟨hg0, _, _⟩ := le_core (G := fun _ => True) hst hm hn hs (fun _ _ => trivial) (fun _ _ _ => trivial)
  have hG : ∀ b, good w0.R φ σ.slots w b → good w0.R (keepH π φ (none, 0)) σ'.slots w b := fun b hb => ⟨hb.1, fun ht => hb.2.1 (htop hg0 b ht), hb.2.2⟩
  obtain ⟨hg, hl, hv⟩ := le_core (G := good w0.R (keepH π φ (none, 0)) σ'.slots w) hst hm hn hs hG (fun _ _ h => h)
  refine ⟨keepH π φ (none, 0), ⟨_, hm.only, fun b hb => hm.tops b (htop hg b hb), hl.flen, hl.Flen, nodup_cnt hm.nd hcnt, fun q hq => hm.ge q (mem_cnt hcnt hq), fun i hd hi => ?_, hl.sr⟩, h.defers, by rw [h.tlen, t1], fun i y v hy hv' => ?_⟩
  · obtain ⟨p1, p2⟩ := hm.pin i hd hi
    have hil : i < m.pin := Nat.lt_of_lt_of_le (List.getElem?_eq_some_iff.1 hi).1 hpin
    have hpi := isPin_at hpn i hil
    rw [Nat.zero_add] at hpi
    obtain ⟨x, y, h', k1, k2, k3, k4, k5⟩ := hg.at_ i i hpi
    rw [p1] at k3
    cases k3
    refine ⟨k4, fun hu => ?_⟩
    rw [k2] at hu
    cases hu
    rcases k5 with k5 | k5
    · cases k5
    · exact k5.live.2
  · obtain ⟨x, hx, hr⟩ := t2 i y hy
    exact hv x y v hr (h.tmps i x v hx hv')
end
end Go.Proofs.Ytdliejnmpdodhaa
