/-
  Calls that turn slots, by their contracts. Plain lemmas, about no function of the program.
  Conditions: those typed in each theorem.
-/
import Derived.Test.YtdliejnmpdodhaaVk1
namespace Go.Proofs.Ytdliejnmpdodhaa
open Go.RowKit Go.ChangeShapes Go.WideShapes
set_option linter.unusedVariables false

section
variable {α : Type} {xs ys : List α} {π : List Nat}
theorem setAll_len : ∀ (π : List Nat) (xs ys : List α), (setAll xs π ys).length = xs.length
  | [], xs, ys => by cases ys <;> rfl
  | k :: ks, xs, [] => rfl
  | k :: ks, xs, y :: ys => by rw [setAll, setAll_len ks, List.length_set]
theorem setAll_other : ∀ (π : List Nat) (xs ys : List α) {j : Nat}, j ∉ π → (setAll xs π ys)[j]? = xs[j]?
  | [], xs, ys, j, _ => by cases ys <;> rfl
  | k :: ks, xs, [], j, _ => rfl
  | k :: ks, xs, y :: ys, j, h => by
    rw [setAll, setAll_other ks _ _ (fun hj => h (List.mem_cons_of_mem _ hj)), List.getElem?_set_ne (fun e => h (by rw [e]; simp))]
theorem setAll_at : ∀ (π : List Nat) (xs ys : List α) {i k : Nat}, π.Nodup → (∀ k ∈ π, k < xs.length) → π.length = ys.length → π[i]? = some k → (setAll xs π ys)[k]? = ys[i]?
  | [], xs, ys, i, k, _, _, _, h => by simp at h
  | q :: ks, xs, [], i, k, _, _, hl, h => by simp at hl
  | q :: ks, xs, y :: ys, i, k, hn, hl, hlen, h => by
    rw [List.nodup_cons] at hn
    rw [setAll]
    match i with
    | 0 =>
      simp at h
      subst h
      rw [setAll_other ks _ _ hn.1, List.getElem?_set_self (hl q (by simp))]
      rfl
    | i + 1 =>
      simp at h
      rw [setAll_at ks _ ys hn.2 (fun j hj => by rw [List.length_set]; exact hl j (by simp [hj])) (by simpa using hlen) h]
      rfl
end
theorem cnt_setAll (q : Nat) : ∀ (π : List Nat) (Fs Gs : List (List Nat)), π.Nodup → (∀ k ∈ π, k < Fs.length) → π.length = Gs.length → cnt q (setAll Fs π Gs) + (ofSlots Fs π).count q = cnt q Fs + cnt q Gs
  | [], Fs, [], _, _, _ => by simp [setAll, ofSlots, cnt]
  | [], Fs, _ :: _, _, _, h => by simp at h
  | k :: ks, Fs, [], _, _, h => by simp at h
  | k :: ks, Fs, G :: Gs, hn, hl, hlen => by
    rw [List.nodup_cons] at hn
    have hk := hl k (by simp)
    have hF : Fs[k]? = some Fs[k] := List.getElem?_eq_getElem hk
    have ih := cnt_setAll q ks (Fs.set k G) Gs hn.2 (fun j hj => by rw [List.length_set]; exact hl j (by simp [hj])) (by simpa using hlen)
    have hset := cnt_set q (F' := G) hF
    have hof : ofSlots (Fs.set k G) ks = ofSlots Fs ks := by
      unfold ofSlots
      congr 1
      apply List.map_congr_left
      intro j hj
      rw [List.getElem?_set_ne (fun e : k = j => hn.1 (by rw [e]; exact hj))]
    rw [hof] at ih
    have hc : ofSlots Fs (k :: ks) = Fs[k] ++ ofSlots Fs ks := by simp [ofSlots, hF]
    have hg : cnt q (G :: Gs) = G.count q + cnt q Gs := by simp [cnt]
    rw [setAll, hc, List.count_append, hg]
    omega
theorem nodup_range' : ∀ (n s : Nat), (List.range' s n).Nodup := fun n s => List.nodup_range' ..

section
variable {P : Program} {w0 : Base} {w w' : World} {φ φ' φ'' : Hdrs} {σ σ' : St} {a : Act} {sl sl' sl'' : List Slot} {Fs Fs' : List (List Nat)} {π : List Nat} {G G' : Nat → Prop}
/-- Slots, and where they are listed. -/
def Emb (π : List Nat) (φ' : Hdrs) (sl' : List Slot) (φ'' : Hdrs) (sl'' : List Slot) : Prop :=
  ∀ (i k : Nat), π[i]? = some k → ∃ y x h, sl'[i]? = some y ∧ sl''[k]? = some x ∧ renS π y = some x ∧ φ'[i]? = some h ∧ φ''[k]? = some h
theorem renS_kind {x y : Slot} (h : renS π y = some x) : (y = .dead ∧ x = .dead) ∨ SameS y x := by
  unfold renS at h
  split at h
  · cases h; exact .inr ⟨rfl, rfl⟩
  · rw [Option.map_eq_some_iff] at h; obtain ⟨_, _, rfl⟩ := h; exact .inr rfl
  · cases h; exact .inl ⟨rfl, rfl⟩
  · cases h
theorem push0 (he : Emb π φ' sl' φ'' sl'') (hG : ∀ b, G b → G' b) {x y : V} {v : Value} (h : ren0 π y = some x) (hy : VR w G φ' sl' y v) : VR w G' φ'' sl'' x v := by
  have hk : ∀ b, G b → G' b ∧ ∀ o, w.cell? ⟨b, o, none⟩ = w.cell? ⟨b, o, none⟩ := fun b hb => ⟨hG b hb, fun _ => rfl⟩
  unfold ren0 at h
  split at h
  · rw [Option.map_eq_some_iff] at h
    obtain ⟨k, hi, rfl⟩ := h
    obtain ⟨y, x, hd, j1, j2, j3, j4, j5⟩ := he _ _ hi
    have ho := hy.one rfl
    rcases renS_kind j3 with ⟨rfl, rfl⟩ | hk
    · exact .gone j2 ho
    · cases hy with
      | gone h1 => rw [j1] at h1; cases h1; exact absurd hk.live.1 (by simp [Slot.live])
      | ref h1 h2 =>
        rw [j1] at h1
        cases h1
        rw [j4] at h2
        cases h2
        cases x <;> simp only [SameS] at hk
        obtain ⟨rfl, rfl⟩ := hk
        exact .ref j2 j5
  · rw [Option.map_eq_some_iff] at h
    obtain ⟨k, hi, rfl⟩ := h
    obtain ⟨y, x, hd, j1, j2, j3, j4, j5⟩ := he _ _ hi
    have ho := hy.one rfl
    rcases renS_kind j3 with ⟨rfl, rfl⟩ | hk
    · exact .litgone j2 ho
    · cases hy with
      | litgone h1 => rw [j1] at h1; cases h1; exact absurd hk.live.1 (by simp [Slot.live])
      | lit h1 h2 =>
        rw [j1] at h1
        cases h1
        rw [j4] at h2
        cases h2
        cases x <;> simp only [SameS] at hk
        exact .lit j2 j5
  · rw [Option.map_eq_some_iff] at h
    obtain ⟨k, hi, rfl⟩ := h
    obtain ⟨y, x, hd, j1, j2, j3, j4, j5⟩ := he _ _ hi
    have ho := hy.one rfl
    rcases renS_kind j3 with ⟨rfl, rfl⟩ | hk
    · exact .lost j2 ho
    · cases hy with
      | lost h1 => rw [j1] at h1; cases h1; exact absurd hk.live.1 (by simp [Slot.live])
      | ptr h1 h2 h3 =>
        rw [j4] at h3
        cases h3
        exact .ptr j2 hk.live.2 j5
  · rw [Option.map_eq_some_iff] at h
    obtain ⟨k, hi, rfl⟩ := h
    obtain ⟨y, x, hd, j1, j2, j3, j4, j5⟩ := he _ _ hi
    have ho := hy.one rfl
    rcases renS_kind j3 with ⟨rfl, rfl⟩ | hk
    · exact .elost j2 ho
    · cases hy with
      | elost h1 => rw [j1] at h1; cases h1; exact absurd hk.live.1 (by simp [Slot.live])
      | eptr h1 h2 =>
        rw [j1] at h1
        cases h1
        rw [j4] at h2
        cases h2
        cases x <;> simp only [SameS] at hk
        exact .eptr j2 j5
  · cases h; cases hy; exact .nil _
  · cases h; cases hy with | d hx => exact .d (hx.mono hk)
  · cases h; cases hy with | cptr u hG' hc hr => exact .cptr u (hG _ hG') hc (fun j d hd => (hr j d hd).mono hk)
  · cases h; exact .any _
  · cases h
theorem push0s (he : Emb π φ' sl' φ'' sl'') (hG : ∀ b, G b → G' b) {xs ys : List V} {vs : List Value} (h : ren0s π ys = some xs) (hl : vs.length = ys.length) (hv : ∀ (i : Nat) (y : V) (v : Value), ys[i]? = some y → vs[i]? = some v → VR w G φ' sl' y v) :
    vs.length = xs.length ∧ ∀ (i : Nat) (x : V) (v : Value), xs[i]? = some x → vs[i]? = some v → VR w G' φ'' sl'' x v := by
  obtain ⟨k1, k2⟩ := ren0s_at h
  refine ⟨by omega, fun i x v hx hv' => ?_⟩
  have hi : i < ys.length := by rw [← k1]; exact (List.getElem?_eq_some_iff.1 hx).1
  obtain ⟨x', hx', hr⟩ := k2 i _ (List.getElem?_eq_getElem hi)
  rw [hx] at hx'
  cases hx'
  exact push0 he hG hr (hv i _ v (List.getElem?_eq_getElem hi) hv')
theorem push (he : Emb π φ' sl' φ'' sl'') (hG : ∀ b, G b → G' b) {x y : V} {v : Value} (h : ren π y = some x) (hy : VR w G φ' sl' y v) : VR w G' φ'' sl'' x v := by
  unfold ren at h
  split at h
  · rw [Option.map_eq_some_iff] at h
    obtain ⟨xs, hr, rfl⟩ := h
    cases hy with
    | agg hl h1 hv => obtain ⟨k1, k2⟩ := push0s he hG hr hl hv; exact .agg k1 h1 k2
  · rw [Option.map_eq_some_iff] at h
    obtain ⟨xs, hr, rfl⟩ := h
    cases hy with
    | fn hl hv => obtain ⟨k1, k2⟩ := push0s he hG hr hl hv; exact .fn k1 k2
  · exact push0 he hG h hy
theorem rens_at : ∀ {ys xs : List V}, rens π ys = some xs → xs.length = ys.length ∧ ∀ (i : Nat) (y : V), ys[i]? = some y → ∃ x, xs[i]? = some x ∧ ren π y = some x
  | [], xs, h => by simp [rens] at h; subst h; exact ⟨rfl, fun i y h => by simp at h⟩
  | y :: ys, xs, h => by
    unfold rens at h
    split at h
    · rename_i x xs' h1 h2
      cases h
      obtain ⟨k1, k2⟩ := rens_at h2
      refine ⟨by simp [k1], fun i y' hy => ?_⟩
      match i with
      | 0 => simp at hy; subst hy; exact ⟨x, rfl, h1⟩
      | i + 1 => simpa using k2 i y' (by simpa using hy)
    · cases h
theorem pushT (he : Emb π φ' sl' φ'' sl'') (hG : ∀ b, G b → G' b) {x y : V} {v : Value} (h : renT π y = some x) (hy : VR w G φ' sl' y v) : VR w G' φ'' sl'' x v := by
  unfold renT at h
  split at h
  · rw [Option.map_eq_some_iff] at h
    obtain ⟨xs, hr, rfl⟩ := h
    cases hy with
    | tup hl hv =>
      obtain ⟨k1, k2⟩ := rens_at hr
      refine .tup (by omega) fun i x v hx hv' => ?_
      rename_i ys vs
      have hi : i < ys.length := by rw [← k1]; exact (List.getElem?_eq_some_iff.1 hx).1
      obtain ⟨x', hx', hr⟩ := k2 i _ (List.getElem?_eq_getElem hi)
      rw [hx] at hx'
      cases hx'
      exact push he hG hr (hv i _ v (List.getElem?_eq_getElem hi) hv')
  · exact push he hG h hy
theorem pushS (he : Emb π φ' sl' φ'' sl'') (hG : ∀ b, G b → G' b) {x y : Slot} {h : Option Nat × Nat} {F : List Nat} (hr : renS π y = some x) (hy : SR P w G φ' sl' y h F) : SR P w G' φ'' sl'' x h F := by
  have hk : ∀ b, G b → G' b ∧ ∀ o, w.cell? ⟨b, o, none⟩ = w.cell? ⟨b, o, none⟩ := fun b hb => ⟨hG b hb, fun _ => rfl⟩
  unfold renS at hr
  split at hr
  · rename_i t ow es
    cases hr
    cases ow with
    | true => exact hy
    | false => exact RowOf.stay hy (fun _ _ => rfl) fun _ _ _ _ _ hr => hr.mono hk
  · rename_i t ys
    rw [Option.map_eq_some_iff] at hr
    obtain ⟨xs, hr, rfl⟩ := hr
    obtain ⟨g, cur, e1, e2, e3, e4, e5⟩ := hy
    obtain ⟨k1, k2⟩ := ren0s_at hr
    refine ⟨g, cur, e1, e2, e3, by omega, fun i x v hx hv => ?_⟩
    have hi : i < ys.length := by rw [← k1]; exact (List.getElem?_eq_some_iff.1 hx).1
    obtain ⟨x', hx', hr'⟩ := k2 i _ (List.getElem?_eq_getElem hi)
    rw [hx] at hx'
    cases hx'
    have := e5 i _ v (List.getElem?_eq_getElem hi) hv
    exact ⟨push0 he hG hr' this.1, this.2⟩
  · cases hr; exact hy
  · cases hr
theorem arrsOk_at : ∀ {ks : List Nat}, arrsOk sl ks → ∀ k ∈ ks, ∃ t ow es, sl[k]? = some (.arr t ow es)
  | [], _, k, hk => by simp at hk
  | q :: ks, h, k, hk => by
    rcases List.mem_cons.1 hk with rfl | hk
    · exact h.1
    · exact arrsOk_at h.2 k hk
theorem view_vr (hm : MemR P w0 φ sl w Fs) {ks : List Nat} (hk : ∀ k ∈ ks, ∃ t ow es, sl[k]? = some (.arr t ow es)) (hG : ∀ b, good w0.R φ sl w b → good w0.R φ (kill ks sl) w b) (hF : ∀ k ∈ ks, ∀ F, Fs[k]? = some F → ∀ b ∈ F, good w0.R φ (kill ks sl) w b)
    (ht : Turn P w0 φ sl w φ (kill ks sl) w) {x : V} {v : Value} (hx : VR w (good w0.R φ sl w) φ sl x v) : VR w (good w0.R φ (kill ks sl) w) φ (kill ks sl) (viewV sl ks x) v := by
  have v0 : ∀ {x : V} {v : Value}, VR w (good w0.R φ sl w) φ sl x v → VR w (good w0.R φ (kill ks sl) w) φ (kill ks sl) (view0 sl ks x) v := by
    intro x v hx
    unfold view0
    split
    · rename_i s
      split
      · rename_i hs
        split
        · rename_i t ow es he
          exact .d (presD_rd (x := .ref s) (by simp [presD, he]) hm hx hG fun s' e F hF' => by cases e; exact hF _ hs F hF')
        · exact hx.mono ht.2.hk ht.2.hs ht.2.hp
      · exact hx.mono ht.2.hk ht.2.hs ht.2.hp
    · exact hx.mono ht.2.hk ht.2.hs ht.2.hp
  unfold viewV
  split
  · cases hx with
    | agg hl h1 hv =>
      refine .agg (by simpa using hl) h1 fun i x v hx hv' => ?_
      rw [List.getElem?_map, Option.map_eq_some_iff] at hx
      obtain ⟨y, hy, rfl⟩ := hx
      exact v0 (hv i y v hy hv')
  · cases hx with
    | fn hl hv =>
      refine .fn (by simpa using hl) fun i x v hx hv' => ?_
      rw [List.getElem?_map, Option.map_eq_some_iff] at hx
      obtain ⟨y, hy, rfl⟩ := hx
      exact v0 (hv i y v hy hv')
  · exact v0 hx
theorem renSs_at : ∀ {ys xs : List Slot}, renSs π ys = some xs → xs.length = ys.length ∧ ∀ (i : Nat) (y : Slot), ys[i]? = some y → ∃ x, xs[i]? = some x ∧ renS π y = some x
  | [], xs, h => by simp [renSs] at h; subst h; exact ⟨rfl, fun i y h => by simp at h⟩
  | y :: ys, xs, h => by
    unfold renSs at h
    split at h
    · rename_i x xs' h1 h2
      cases h
      obtain ⟨k1, k2⟩ := renSs_at h2
      refine ⟨by simp [k1], fun i y' hy => ?_⟩
      match i with
      | 0 => simp at hy; subst hy; exact ⟨x, rfl, h1⟩
      | i + 1 => simpa using k2 i y' (by simpa using hy)
    · cases h
theorem laters_at : ∀ {xs ys : List Slot}, laters xs ys → xs.length ≤ ys.length ∧ ∀ (i : Nat) (x : Slot), xs[i]? = some x → ∃ y, ys[i]? = some y ∧ Later x y
  | [], ys, _ => ⟨Nat.zero_le _, fun i x h => by simp at h⟩
  | x :: xs, [], h => h.elim
  | x :: xs, y :: ys, h => by
    obtain ⟨k1, k2⟩ := laters_at h.2
    refine ⟨by simp; omega, fun i x' hx => ?_⟩
    match i with
    | 0 => simp at hx; subst hx; exact ⟨y, rfl, h.1⟩
    | i + 1 => simpa using k2 i x' (by simpa using hx)
end
end Go.Proofs.Ytdliejnmpdodhaa
