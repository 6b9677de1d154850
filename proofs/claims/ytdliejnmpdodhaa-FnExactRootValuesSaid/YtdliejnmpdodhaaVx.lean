/-
  Calls that use up what their arguments own (marks over a law's arguments), where nothing of a slot is read as data. Plain lemmas, about no function of the program.
  Conditions: those typed in each theorem.
-/
import Derived.Test.YtdliejnmpdodhaaVk3
namespace Go.Proofs.Ytdliejnmpdodhaa
open Go.RowKit Go.ChangeShapes Go.WideShapes
set_option linter.unusedVariables false
section
variable {P : Program} {w0 : Base} {w w' : World} {φ φ' : Hdrs} {σ : St} {a : Act} {sl sl' : List Slot} {Fs Fs' : List (List Nat)}
theorem ofSlots_append (ks ks' : List Nat) : ofSlots Fs (ks ++ ks') = ofSlots Fs ks ++ ofSlots Fs ks' := by simp [ofSlots]
theorem give1_sound (hm : MemR P w0 φ sl w Fs) {v : V} {x : X} {ks : List Nat} {u : Value} (h : give1 sl v = some (x, ks)) (hv : VR w (good w0.R φ sl w) φ sl v u) : XOwn P w x u (ofSlots Fs ks) ∧ ks.Nodup ∧ ∀ k ∈ ks, k < Fs.length := by
  have lt : ∀ {ks : List Nat}, (∀ k ∈ ks, ∃ t es, sl[k]? = some (.arr t true es)) → ∀ k ∈ ks, k < Fs.length := fun h k hk => by
    obtain ⟨_, _, h1⟩ := h k hk
    rw [hm.Flen]
    exact (List.getElem?_eq_some_iff.1 h1).1
  unfold give1 at h
  split at h
  · rw [Option.map_eq_some_iff] at h
    obtain ⟨⟨ds, ks'⟩, h1, h2⟩ := h
    cases h2
    cases hv with
    | agg hl hone hv =>
      rename_i vs us
      obtain ⟨k1, k2, k3⟩ := takeC_sound hm h1 (vs := us) ⟨hl, fun i x v hx hv' => ⟨hv i x v hx hv', hone v (List.mem_of_getElem? hv')⟩⟩
      exact ⟨.agg k1, k2, lt k3⟩
  · split at h
    · rename_i h1
      cases h
      have hc : v.cell = true := by
        cases v with
        | any => simp [takeC] at h1
        | tup => simp [takeC] at h1
        | agg vs => simp [takeC] at h1
        | _ => rfl
      obtain ⟨k1, k2, k3⟩ := takeC_sound hm h1 (vs := [u]) ⟨rfl, fun i x v' hx hv' => by
        match i with
        | 0 => simp at hx hv'; subst hx hv'; exact ⟨hv, hv.one hc⟩
        | i + 1 => simp at hx⟩
      exact ⟨.d k1, k2, lt k3⟩
    · cases h
theorem give1s_sound (hm : MemR P w0 φ sl w Fs) : ∀ {vs : List V} {xs : List X} {ks : List Nat} {us : List Value}, give1s sl vs = some (xs, ks) → us.length = vs.length → (∀ (i : Nat) (v : V) (u : Value), vs[i]? = some v → us[i]? = some u → VR w (good w0.R φ sl w) φ sl v u) →
    ∃ Gs : List (List Nat), us.length = xs.length ∧ Gs.length = xs.length ∧ (∀ (i : Nat) (x : X) (u : Value) (F : List Nat), xs[i]? = some x → us[i]? = some u → Gs[i]? = some F → XOwn P w x u F) ∧ Gs.flatten = ofSlots Fs ks ∧ ks.Nodup ∧ ∀ k ∈ ks, k < Fs.length
  | [], xs, ks, us, h, hl, _ => by
    simp [give1s] at h
    obtain ⟨rfl, rfl⟩ := h
    exact ⟨[], hl, rfl, fun i x u F hx => by simp at hx, by simp [ofSlots], by simp, by simp⟩
  | v :: vs, xs, ks, [], h, hl, _ => by simp at hl
  | v :: vs, xs, ks, u :: us, h, hl, hv => by
    unfold give1s at h
    split at h
    · rename_i x k xs' ks' h1 h2
      split at h
      · rename_i hd
        cases h
        obtain ⟨k1, k2, k3⟩ := give1_sound hm h1 (hv 0 v u rfl rfl)
        obtain ⟨Gs, j1, j2, j3, j4, j5, j6⟩ := give1s_sound hm h2 (us := us) (by simpa using hl) (fun i v u hx hu => hv (i + 1) v u (by simpa using hx) (by simpa using hu))
        refine ⟨ofSlots Fs k :: Gs, by simp [j1], by simp [j2], fun i y u' F hx hu hF => ?_, by rw [List.flatten_cons, j4, ofSlots_append], ?_, fun q hq => ?_⟩
        · match i with
          | 0 => simp at hx hu hF; subst hx hu hF; exact k1
          | i + 1 => exact j3 i y u' F (by simpa using hx) (by simpa using hu) (by simpa using hF)
        · rw [List.all_eq_true] at hd
          refine List.nodup_append.2 ⟨k2, j5, fun a ha b hb e => ?_⟩
          have := hd a ha
          subst e
          simp [hb] at this
        · rcases List.mem_append.1 hq with h | h
          · exact k3 q h
          · exact j6 q h
      · cases h
    · cases h
theorem good_mono2 {R : Nat → Prop} {S : List Nat} (hO : Only S w w') (hS : ∀ b ∈ S, ¬ good R φ sl w b) (hT : ∀ b, top φ' sl' b → w.heap.size ≤ b ∨ top φ sl b) :
    ∀ b, good R φ sl w b → good R φ' sl' w' b ∧ ∀ o, w'.cell? ⟨b, o, none⟩ = w.cell? ⟨b, o, none⟩ := by
  intro b hg
  have hb : b ∉ S := fun hb => hS b hb hg
  obtain ⟨h1, h2, hR⟩ := hg
  refine ⟨⟨Nat.lt_of_lt_of_le h1 hO.size, fun ht => ?_, hR⟩, fun o => ?_⟩
  · rcases hT b ht with h | h
    · omega
    · exact h2 h
  · have := hO.block b h1 hb
    simp only [World.cell?, this]
theorem MemR.turn2 (h : MemR P w0 φ sl w Fs) {S : List Nat} (hO : Only S w w') (hS : ∀ b ∈ S, ¬ good w0.R φ sl w b) (hS2 : ∀ b ∈ S, w0.T b ∨ w0.w.heap.size ≤ b) (hl : φ'.length = sl'.length) (hF : Fs'.length = sl'.length) (nd : Fs'.flatten.Nodup) (ge : ∀ g ∈ Fs'.flatten, w0.B g ∨ w0.w.heap.size ≤ g)
    (hs : ∀ (s : Nat) (x : Slot), sl[s]? = some x → ∃ x', sl'[s]? = some x' ∧ Later x x') (hp : ∀ (s : Nat) (h : Option Nat × Nat), φ[s]? = some h → sl[s]? ≠ some .unborn → φ'[s]? = some h) (hT : ∀ b, top φ' sl' b → w.heap.size ≤ b ∨ top φ sl b)
    (hn : ∀ (s : Nat) (x : Slot) (h : Option Nat × Nat) (F : List Nat), sl'[s]? = some x → φ'[s]? = some h → Fs'[s]? = some F → (sl[s]? = some x ∧ φ[s]? = some h ∧ Fs[s]? = some F ∧ ∀ b ∈ F, b ∉ S) ∨ SR P w' (good w0.R φ' sl' w') φ' sl' x h F) :
    Turn P w0 φ sl w φ' sl' w' := by
  refine ⟨⟨Fs', ?_⟩, good_mono2 hO hS hT, hs, hp⟩
  exact {
    only := h.only_step hO hS2
    tops := fun b hb => by
      rcases hT b hb with h' | h'
      · have := h.only.size; exact .inr (by omega)
      · exact h.tops b h'
    flen := hl
    Flen := hF
    nd := nd
    ge := ge
    pin := fun i hd hi => by
      obtain ⟨h1, h2⟩ := h.pin i hd hi
      refine ⟨hp i hd h1 h2, fun hu => ?_⟩
      have hl' : i < sl.length := by rw [← h.flen]; exact (List.getElem?_eq_some_iff.1 h1).1
      obtain ⟨x', k1, k2⟩ := hs i _ (List.getElem?_eq_getElem hl')
      rw [k1] at hu
      cases hu
      exact k2.unborn (fun e => h2 (by rw [List.getElem?_eq_getElem hl', e])) rfl
    sr := fun s x hd F h1 h2 h3 => by
      rcases hn s x hd F h1 h2 h3 with ⟨h4, h5, h6, h7⟩ | h4
      · have hsr := h.sr s x hd F h4 h5 h6
        exact hsr.mono (fun g hg => hO.block g (hsr.lt g hg) (h7 g hg)) (good_mono2 hO hS hT) hs hp
      · exact h4 }
theorem takeC_arr : ∀ {xs : List V} {ds : List D} {ks : List Nat}, takeC sl xs = some (ds, ks) → ∀ k ∈ ks, ∃ t es, sl[k]? = some (.arr t true es)
  | [], ds, ks, h => by
    simp [takeC] at h
    obtain ⟨-, rfl⟩ := h
    simp
  | x :: xs, ds, ks, h => by
    unfold takeC at h
    split at h
    · cases h
    rename_i ds' ks' h1
    have ih := takeC_arr h1
    split at h
    · cases h; exact ih
    · cases h; exact ih
    · cases h; exact ih
    · rename_i s
      split at h
      · rename_i t es hs
        split at h
        · cases h
        · cases h
          intro k hk
          rcases List.mem_cons.1 hk with rfl | hk
          · exact ⟨t, es, hs⟩
          · exact ih k hk
      · cases h
    · cases h
theorem give1_arr {v : V} {x : X} {ks : List Nat} (h : give1 sl v = some (x, ks)) : ∀ k ∈ ks, ∃ t es, sl[k]? = some (.arr t true es) := by
  unfold give1 at h
  split at h
  · rw [Option.map_eq_some_iff] at h
    obtain ⟨⟨ds, ks'⟩, h1, h2⟩ := h
    cases h2
    exact takeC_arr h1
  · split at h
    · rename_i h1
      cases h
      exact takeC_arr h1
    · cases h
theorem give1s_arr : ∀ {vs : List V} {xs : List X} {ks : List Nat}, give1s sl vs = some (xs, ks) → ∀ k ∈ ks, ∃ t es, sl[k]? = some (.arr t true es)
  | [], xs, ks, h => by
    simp [give1s] at h
    obtain ⟨-, rfl⟩ := h
    simp
  | v :: vs, xs, ks, h => by
    unfold give1s at h
    split at h
    · rename_i x k xs' ks' h1 h2
      split at h
      · cases h
        intro q hq
        rcases List.mem_append.1 hq with h | h
        · exact give1_arr h1 q h
        · exact give1s_arr h2 q h
      · cases h
    · cases h
/-- The slots that a call uses up die. -/
theorem callK_sound (hap : w0.Apart) (hm : MemR P w0 φ sl w Fs) {f : FuncId} {xs : List V} {ys : List X} {ks : List Nat} {n : Int} (hg : give1s sl xs = some (ys, ks)) (hc : ConK P f ys n) {vs : List Value} (hl : vs.length = xs.length)
    (hv : ∀ (i : Nat) (x : V) (v : Value), xs[i]? = some x → vs[i]? = some v → VR w (good w0.R φ sl w) φ sl x v) :
    callable P f = true ∧ Calls P f vs.toArray w fun e w' => e = .returned (.int .i64 n) ∧ Turn P w0 φ sl w φ (kill ks sl) w' := by
  obtain ⟨Gs, j1, j2, j3, j4, hks, hkF⟩ := give1s_sound hm hg hl hv
  have hkl : ∀ k ∈ ks, k < sl.length := fun k h => by rw [← hm.Flen]; exact hkF k h
  have hcnt : ∀ q, cnt q (killF ks Fs) ≤ cnt q Fs := fun q => by have := cnt_killF q hks hkF; omega
  have hin : ∀ q ∈ ofSlots Fs ks, q ∈ Fs.flatten := fun q hq => by
    have h1 := cnt_killF q hks hkF
    have h2 := List.count_pos_iff.2 hq
    exact List.count_pos_iff.1 (by simp only [cnt] at h1; omega)
  have hnd : Gs.flatten.Nodup := by
    rw [j4, List.nodup_iff_count]
    intro q
    have h1 := cnt_killF q hks hkF
    have h2 := List.nodup_iff_count.1 hm.nd q
    simp only [cnt] at h1
    omega
  refine ⟨hc.1, (hc.2 w vs Gs j1 j2 j3 hnd).mono ?_⟩
  rintro e w' ⟨rfl, hO⟩
  refine ⟨rfl, ?_⟩
  rw [j4] at hO
  have hge : ∀ b ∈ ofSlots Fs ks, w0.B b ∨ w0.w.heap.size ≤ b := fun b hb => hm.ge b (hin b hb)
  have old : ∀ {i : Nat} {x : Slot}, (kill ks sl)[i]? = some x → (i ∈ ks ∧ x = .dead) ∨ (i ∉ ks ∧ sl[i]? = some x) := by
    intro i x hx
    rw [kill_at] at hx
    by_cases h : i ∈ ks ∧ i < sl.length
    · rw [if_pos h] at hx; cases hx; exact .inl ⟨h.1, rfl⟩
    · rw [if_neg h] at hx
      exact .inr ⟨fun hi => h ⟨hi, hkl i hi⟩, hx⟩
  have hT : ∀ b, top φ (kill ks sl) b → top φ sl b := by
    rintro b ⟨s, x, c, h1, h2, h3⟩
    rcases old h1 with ⟨_, rfl⟩ | ⟨_, h1⟩
    · exact h2.elim
    · exact ⟨s, x, c, h1, h2, h3⟩
  have hlive : ∀ k ∈ ks, ∃ x, sl[k]? = some x ∧ x.live := fun k hk => by
    obtain ⟨t, es, h⟩ := give1s_arr hg k hk
    exact ⟨_, h, trivial⟩
  have hlt : ∀ (s : Nat) (x : Slot), sl[s]? = some x → ∃ x', (kill ks sl)[s]? = some x' ∧ Later x x' := by
    intro s x hx
    rw [kill_at]
    by_cases h : s ∈ ks ∧ s < sl.length
    · obtain ⟨x', h1, h2⟩ := hlive s h.1
      rw [hx] at h1
      cases h1
      exact ⟨.dead, by rw [if_pos h], by cases x <;> simp_all [Slot.live, Later]⟩
    · exact ⟨x, by rw [if_neg h]; exact hx, Later.refl x⟩
  refine hm.turn2 (Fs' := killF ks Fs) hO (fun b hb hgd => hap.no (hge b hb) hgd.2.2) (fun b hb => hap.old (hge b hb)) (by rw [kill_len, hm.flen]) (by rw [kill_len, killF_len, hm.Flen]) (nodup_cnt hm.nd hcnt) (fun q hq => hm.ge q (mem_cnt hcnt hq)) hlt (fun _ _ h _ => h) (fun b hb => .inr (hT b hb)) (fun s x h F q1 q2 q3 => ?_)
  rw [killF_at] at q3
  rcases old q1 with ⟨h1, rfl⟩ | ⟨h1, q1⟩
  · rw [if_pos ⟨h1, hkF s h1⟩] at q3
    cases q3
    exact .inr rfl
  · rw [if_neg (fun h => h1 h.1)] at q3
    refine .inl ⟨q1, q2, q3, fun b hb hb2 => ?_⟩
    unfold ofSlots at hb2
    obtain ⟨l, hl1, hl2⟩ := List.mem_flatten.1 hb2
    obtain ⟨k, hk, rfl⟩ := List.mem_map.1 hl1
    have hFk : Fs[k]? = some (Fs[k]'(hkF k hk)) := List.getElem?_eq_getElem _
    rw [hFk] at hl2
    exact flat_disj hm.nd q3 hFk (fun e => h1 (e ▸ hk)) b hb hl2
/-- A row is written over in place. -/
theorem callM_sound (hap : w0.Apart) (hm : MemR P w0 φ sl w Fs) {f : FuncId} {s : Nat} {t : TypeId} {es es' : List (List D)} {k n : Int} (hs : sl[s]? = some (.arr t true es)) (hc : ConM P f t es k n es') {v u : Value}
    (hv : VR w (good w0.R φ sl w) φ sl (.ref s) v) (hu : VR w (good w0.R φ sl w) φ sl (.d (.int .i64 k)) u) :
    callable P f = true ∧ Calls P f #[v, u] w fun e w' => e = .returned (.int .i64 n) ∧ Turn P w0 φ sl w φ (sl.set s (.arr t true es')) w' := by
  obtain ⟨h1, hlen, h2⟩ := hc
  refine ⟨h1, ?_⟩
  have hsl := (List.getElem?_eq_some_iff.1 hs).1
  obtain ⟨hd, F, k1, k2, k3⟩ := hm.at_ hs
  obtain ⟨A, c⟩ := hd
  have hu' : u = .int .i64 k := by
    cases hu with
    | d h => cases h; rfl
  have hv' : v = .slice (hdr A) es.length c := by
    cases hv with
    | ref q1 q2 =>
      rw [hs] at q1
      rw [k1] at q2
      cases q1
      cases q2
      rfl
    | gone q1 => rw [hs] at q1; cases q1
  subst hu' hv'
  have hFn : F.Nodup := by
    exact List.Pairwise.sublist (List.sublist_flatten_of_mem (List.mem_of_getElem? k2)) hm.nd
  refine (h2 w A c F k3 hFn).mono ?_
  rintro e w' ⟨rfl, hrow, hO⟩
  refine ⟨rfl, ?_⟩
  have hge : ∀ b ∈ F, w0.B b ∨ w0.w.heap.size ≤ b := fun b hb => hm.ge b (mem_flat k2 hb)
  have old : ∀ {i : Nat} {x : Slot}, (sl.set s (.arr t true es'))[i]? = some x → (i = s ∧ x = .arr t true es') ∨ (i ≠ s ∧ sl[i]? = some x) := by
    intro i x hx
    by_cases h : s = i
    · subst h
      rw [List.getElem?_set_self hsl] at hx
      cases hx
      exact .inl ⟨rfl, rfl⟩
    · rw [List.getElem?_set_ne h] at hx
      exact .inr ⟨fun e => h e.symm, hx⟩
  have hT : ∀ b, top φ (sl.set s (.arr t true es')) b → top φ sl b := by
    rintro b ⟨i, x, c', q1, q2, q3⟩
    rcases old q1 with ⟨rfl, rfl⟩ | ⟨_, q1⟩
    · exact ⟨i, _, c', hs, trivial, q3⟩
    · exact ⟨i, x, c', q1, q2, q3⟩
  have hlt : ∀ (i : Nat) (x : Slot), sl[i]? = some x → ∃ x', (sl.set s (.arr t true es'))[i]? = some x' ∧ Later x x' := by
    intro i x hx
    by_cases h : s = i
    · subst h
      rw [hs] at hx
      cases hx
      exact ⟨_, List.getElem?_set_self hsl, by simp [Later, hlen]⟩
    · exact ⟨x, by rw [List.getElem?_set_ne h]; exact hx, Later.refl x⟩
  refine hm.turn2 (Fs' := Fs) hO (fun b hb hgd => hap.no (hge b hb) hgd.2.2) (fun b hb => hap.old (hge b hb)) (by simp [hm.flen]) (by simp [hm.Flen]) hm.nd hm.ge hlt (fun _ _ h _ => h) (fun b hb => .inr (hT b hb)) (fun i x h F2 q1 q2 q3 => ?_)
  rcases old q1 with ⟨rfl, rfl⟩ | ⟨h1, q1⟩
  · rw [k1] at q2
    rw [k2] at q3
    cases q2
    cases q3
    exact .inr hrow
  · exact .inl ⟨q1, q2, q3, fun b hb hb2 => flat_disj hm.nd q3 k2 h1 b hb hb2⟩
theorem allLike_at : ∀ {xs ys : List Slot}, allLike xs ys → xs.length = ys.length ∧ ∀ (i : Nat) (x y : Slot), xs[i]? = some x → ys[i]? = some y → ∃ t es es', x = .arr t true es ∧ y = .arr t true es' ∧ es'.length = es.length
  | [], [], _ => ⟨rfl, fun i x y h => by simp at h⟩
  | x :: xs, y :: ys, h => by
    obtain ⟨h1, h2⟩ := h
    obtain ⟨k1, k2⟩ := allLike_at h2
    refine ⟨by simp [k1], fun i a b ha hb => ?_⟩
    match i with
    | 0 =>
      simp at ha hb
      subst ha hb
      unfold arrLike at h1
      split at h1
      · obtain ⟨rfl, h1⟩ := h1; exact ⟨_, _, _, rfl, rfl, h1⟩
      · exact h1.elim
    | i + 1 => exact k2 i a b (by simpa using ha) (by simpa using hb)
  | [], _ :: _, h => h.elim
  | _ :: _, [], h => h.elim
/-- Rows are written over in place, by a function that is given them among its arguments. -/
theorem callW_sound (hst : w0.st = true) (hap : w0.Apart) (hm : MemR P w0 φ sl w Fs) {f : FuncId} {xs args : List V} {slc slc' : List Slot} {π : List Nat} {n : Int} (hc : ConW P f args slc n slc') (hn : π.Nodup) (hs : leSlots true sl π π slc) (ht : leTmps true sl π xs args) {vs : List Value} (hl : vs.length = xs.length)
    (hv : ∀ (i : Nat) (x : V) (v : Value), xs[i]? = some x → vs[i]? = some v → VR w (good w0.R φ sl w) φ sl x v) :
    callable P f = true ∧ Calls P f vs.toArray w fun e w' => e = .returned (.int .i64 n) ∧ Turn P w0 φ sl w φ (setAll sl π slc') w' := by
  obtain ⟨hcall, hlike, hcon⟩ := hc
  obtain ⟨k1, k2⟩ := allLike_at hlike
  refine ⟨hcall, ?_⟩
  obtain ⟨s1, s2⟩ := leSlots_at hs
  have hpl : ∀ k ∈ π, k < sl.length := fun k hk => by
    obtain ⟨i, hi, rfl⟩ := List.mem_iff_getElem.1 hk
    obtain ⟨x, hx, _⟩ := s2 i _ _ (List.getElem?_eq_getElem hi) (List.getElem?_eq_getElem (by omega))
    exact (List.getElem?_eq_some_iff.1 hx).1
  have hkl : ∀ k ∈ π, k < Fs.length := fun k hk => by rw [hm.Flen]; exact hpl k hk
  have hge : ∀ b ∈ Fs.flatten, w0.B b ∨ w0.w.heap.size ≤ b := hm.ge
  have hG0 : ∀ {φ' : Hdrs}, Gc π φ sl φ' slc → ∀ b, good w0.R φ sl w b → good (good w0.R φ sl w) φ' slc w b := by
    intro φ' hg b hb
    refine ⟨hb.1, fun ht => ?_, hb⟩
    obtain ⟨k, x, c, _, k2, k3, k4⟩ := gc_top hg ht
    exact hb.2.1 ⟨k, x, c, k2, k3, k4⟩
  obtain ⟨hg, _, _⟩ := le_core (G := fun _ => True) hst hm hn hs (fun _ _ => trivial) (by simp)
  obtain ⟨_, hls, hval⟩ := le_core (G := good (good w0.R φ sl w) (keepH π φ (none, 0)) slc w) hst hm hn hs (hG0 hg) (by simp)
  have hcnt : ∀ q, cnt q (List.zipWith cutF slc (keepH π Fs [])) ≤ cnt q (keepH π Fs []) := fun q => cnt_cut q _ _
  have hcnt2 : ∀ q, cnt q (keepH π Fs []) ≤ cnt q Fs := fun q => cnt_keep q hn hkl
  have hof : ofSlots Fs π = (keepH π Fs []).flatten := rfl
  generalize hFc : List.zipWith cutF slc (keepH π Fs []) = Fc at *
  have hcF : ∀ q ∈ Fc.flatten, q ∈ (ofSlots Fs π) := fun q hq => by rw [hof]; exact mem_cnt hcnt hq
  have hcS : ∀ q ∈ Fc.flatten, q ∈ Fs.flatten := fun q hq => mem_cnt (fun q => Nat.le_trans (hcnt q) (hcnt2 q)) hq
  have hno : ∀ b, good w0.R φ sl w b → b < w.heap.size ∧ b ∉ Fc.flatten := fun b hb => ⟨hb.1, fun h => hap.no (hge b (hcS b h)) hb.2.2⟩
  have hmc : MemR P ⟨w, (· ∈ Fc.flatten), (· ∈ Fc.flatten), keepH π φ (none, 0), good w0.R φ sl w, true, by simp⟩ (keepH π φ (none, 0)) slc w Fc := by
    have hsr := hls.sr
    refine ⟨Kept.refl _ _, fun b hb => .inl ?_, hls.flen, hls.Flen, nodup_cnt hm.nd (fun q => Nat.le_trans (hcnt q) (hcnt2 q)), fun q hq => .inl hq, fun i h hi => ⟨hi, fun hu => ?_⟩, hsr⟩
    · obtain ⟨s, x, c, h1, h2, h3⟩ := hb
      have hsl : s < Fc.length := by rw [hls.Flen]; exact (List.getElem?_eq_some_iff.1 h1).1
      have hF := List.getElem?_eq_getElem hsl
      exact mem_flat hF ((hsr s x _ _ h1 h3 hF).head h2)
    · have hi' : i < slc'.length := by rw [← k1]; exact (List.getElem?_eq_some_iff.1 hu).1
      obtain ⟨t, es, es', e1, _⟩ := k2 i _ _ hu (List.getElem?_eq_getElem hi')
      cases e1
  obtain ⟨ta1, ta2⟩ := leTmps_at ht
  have hargs : ∀ (i : Nat) (y : V) (v : Value), args[i]? = some y → vs[i]? = some v → VR w (good (good w0.R φ sl w) (keepH π φ (none, 0)) slc w) (keepH π φ (none, 0)) slc y v := by
    intro i y v hy hv'
    obtain ⟨x, hx, hle⟩ := ta2 i y hy
    exact hval _ y v hle (hv i x v hx hv')
  refine (hcon w (keepH π φ (none, 0)) Fc (good w0.R φ sl w) hno vs hmc (by rw [← ta1]; exact hl) hargs).mono ?_
  rintro e w' ⟨rfl, Fc', hmc'⟩
  refine ⟨rfl, ?_⟩
  have hO : Only Fc.flatten w w' := ⟨hmc'.only.os, hmc'.only.tape, hmc'.only.output, hmc'.only.size, fun b hb hbF => hmc'.only.block b hb hbF⟩
  have hπc : π.length = slc'.length := by rw [s1, k1]
  have hπF : π.length = Fc'.length := by rw [hmc'.Flen]; exact hπc
  have hT : ∀ b, top φ (setAll sl π slc') b → top φ sl b := by
    rintro b ⟨s, x, c, h1, h2, h3⟩
    by_cases hsπ : s ∈ π
    · obtain ⟨i, hi, rfl⟩ := List.mem_iff_getElem.1 hsπ
      obtain ⟨x0, hx0, hle⟩ := s2 i _ _ (List.getElem?_eq_getElem hi) (List.getElem?_eq_getElem (by omega))
      obtain ⟨t, es, es', e1, _⟩ := k2 i _ _ (List.getElem?_eq_getElem (by omega)) (List.getElem?_eq_getElem (by omega))
      rw [e1] at hle
      refine ⟨_, x0, c, hx0, ?_, h3⟩
      rcases hle with rfl | ⟨_, h, _⟩
      · trivial
      · cases h
    · rw [setAll_other _ _ _ hsπ] at h1
      exact ⟨s, x, c, h1, h2, h3⟩
  have one : ∀ q, q ∈ Fc'.flatten → cnt q Fc' = 1 := fun q hq => by
    have h1 := List.nodup_iff_count.1 hmc'.nd q
    have h2 := List.count_pos_iff.2 hq
    simp only [cnt]
    omega
  have hset := fun q => cnt_setAll q π Fs Fc' hn hkl hπF
  have hin : ∀ q, q ∈ (setAll Fs π Fc').flatten → q ∈ Fs.flatten ∨ q ∈ Fc'.flatten := fun q hq => by
    have h1 := hset q
    have h2 := List.count_pos_iff.2 hq
    by_cases h3 : q ∈ Fs.flatten
    · exact .inl h3
    · refine .inr (List.count_pos_iff.1 ?_)
      have h4 := List.count_eq_zero.2 h3
      simp only [cnt] at h1
      omega
  refine hm.turn2 (Fs' := setAll Fs π Fc') hO (fun b hb hgd => hap.no (hge b (hcS b hb)) hgd.2.2) (fun b hb => hap.old (hge b (hcS b hb))) (by rw [setAll_len, hm.flen]) (by rw [setAll_len, setAll_len, hm.Flen]) ?_ ?_ ?_ (fun _ _ h _ => h) (fun b hb => .inr (hT b hb)) ?_
  · rw [List.nodup_iff_count]
    intro q
    have h1 := hset q
    have h2 := List.nodup_iff_count.1 hm.nd q
    simp only [cnt] at h1
    by_cases hq : q ∈ Fc'.flatten
    · have h3 := one q hq
      simp only [cnt] at h3
      rcases hmc'.ge q hq with h4 | h4
      · have h5 := List.count_pos_iff.2 (hcF q h4)
        omega
      · have h5 : Fs.flatten.count q = 0 := List.count_eq_zero.2 fun h => by have := hm.lt q h; have h4 : w.heap.size ≤ q := h4; omega
        omega
    · have h3 := List.count_eq_zero.2 hq
      omega
  · intro q hq
    rcases hin q hq with h | h
    · exact hge q h
    · rcases hmc'.ge q h with h4 | h4
      · exact hge q (hcS q h4)
      · have h4 : w.heap.size ≤ q := h4
        have := hm.only.size
        exact .inr (by omega)
  · intro s x hx
    by_cases hsπ : s ∈ π
    · obtain ⟨i, hi, rfl⟩ := List.mem_iff_getElem.1 hsπ
      obtain ⟨x0, hx0, hle⟩ := s2 i _ _ (List.getElem?_eq_getElem hi) (List.getElem?_eq_getElem (by omega))
      obtain ⟨t, es, es', e1, e2, e3⟩ := k2 i _ _ (List.getElem?_eq_getElem (by omega)) (List.getElem?_eq_getElem (by omega))
      rw [hx] at hx0
      cases hx0
      rw [e1] at hle
      refine ⟨.arr t true es', ?_, ?_⟩
      · rw [setAll_at π sl slc' hn hpl hπc (List.getElem?_eq_getElem hi), List.getElem?_eq_getElem (by omega), e2]
      · rcases hle with rfl | ⟨_, h, _⟩
        · simpa [Later] using e3
        · cases h
    · exact ⟨x, by rw [setAll_other _ _ _ hsπ]; exact hx, Later.refl x⟩
  · intro s x h F q1 q2 q3
    by_cases hsπ : s ∈ π
    · obtain ⟨i, hi, rfl⟩ := List.mem_iff_getElem.1 hsπ
      have hi' := List.getElem?_eq_getElem hi
      rw [setAll_at π sl slc' hn hpl hπc hi'] at q1
      rw [setAll_at π Fs Fc' hn hkl hπF hi'] at q3
      have hsr := hmc'.sr i x h F q1 (keepH_at hi' q2) q3
      obtain ⟨t, es, es', e1, e2, e3⟩ := k2 i _ _ (List.getElem?_eq_getElem (by omega)) q1
      subst e2
      exact .inr hsr
    · rw [setAll_other _ _ _ hsπ] at q1 q3
      refine .inl ⟨q1, q2, q3, fun b hb hb2 => ?_⟩
      have hb3 := hcF b hb2
      unfold ofSlots at hb3
      obtain ⟨l, hl1, hl2⟩ := List.mem_flatten.1 hb3
      obtain ⟨k, hk, rfl⟩ := List.mem_map.1 hl1
      have hFk : Fs[k]? = some (Fs[k]'(hkl k hk)) := List.getElem?_eq_getElem _
      rw [hFk] at hl2
      exact flat_disj hm.nd q3 hFk (fun e => hsπ (e ▸ hk)) b hb hl2
theorem callS_sound {m : Mode} (hst : w0.st = m.st) (hck : m.tc = true → m.st = true → w0.Apart) (hr : Rel P w0 φ σ a w) {f : FuncId} {xs : List V} {K : V → List Slot → Prop} (h : CallS P m σ.slots f xs K) {vs : List Value} (hl : vs.length = xs.length)
    (hv : ∀ (i : Nat) (x : V) (v : Value), xs[i]? = some x → vs[i]? = some v → VR w (good w0.R φ σ.slots w) φ σ.slots x v) :
    callable P f = true ∧ Calls P f vs.toArray w fun e w' => ∃ v φ' sl' z, e = .returned v ∧ Turn P w0 φ σ.slots w φ' sl' w' ∧ VR w' (good w0.R φ' sl' w') φ' sl' z v ∧ K z sl' := by
  obtain ⟨h1, h2, h⟩ := h
  have hap := hck h1 h2
  replace hst := hst.trans h2
  obtain ⟨Fs, hm⟩ := hr.mem
  rcases h with ⟨ys, ks, n, q1, q2, q3⟩ | ⟨s, t, es, k, n, es', rfl, q1, q2, q3⟩ | ⟨π, args, slc, slc', n, q1, q2, q3, q4, q5⟩
  · obtain ⟨c1, c2⟩ := callK_sound hap hm q1 q2 hl hv
    refine ⟨c1, c2.mono ?_⟩
    rintro e w' ⟨rfl, ht⟩
    exact ⟨_, φ, _, _, rfl, ht, .d (.int _ _), q3⟩
  · match vs, hl with
    | [v, u], _ =>
      obtain ⟨c1, c2⟩ := callM_sound hap hm q1 q2 (hv 0 _ v rfl rfl) (hv 1 _ u rfl rfl)
      refine ⟨c1, c2.mono ?_⟩
      rintro e w' ⟨rfl, ht⟩
      exact ⟨_, φ, _, _, rfl, ht, .d (.int _ _), q3⟩
  · obtain ⟨c1, c2⟩ := callW_sound hst hap hm q1 q2 q3 q4 hl hv
    refine ⟨c1, c2.mono ?_⟩
    rintro e w' ⟨rfl, ht⟩
    exact ⟨_, φ, _, _, rfl, ht, .d (.int _ _), q5⟩
end
end Go.Proofs.Ytdliejnmpdodhaa
