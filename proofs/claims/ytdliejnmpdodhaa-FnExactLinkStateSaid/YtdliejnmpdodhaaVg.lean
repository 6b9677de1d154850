/-
  Operations that turn a slot: stores, appends. Plain lemmas, about no function of the program.
  Conditions: those typed in each theorem.
-/
import Derived.Test.YtdliejnmpdodhaaVf
namespace Go.Proofs.Ytdliejnmpdodhaa
open Go.RowKit Go.ChangeShapes Go.WideShapes
set_option linter.unusedVariables false

/-- Some slots die. -/
def kill : List Nat → List Slot → List Slot
  | [], sl => sl
  | k :: ks, sl => kill ks (sl.set k .dead)
/-- Cells that are taken over with all that hangs on them: the data; the slots that die for it. -/
def takeC (sl : List Slot) : List V → Option (List D × List Nat)
  | [] => some ([], [])
  | x :: xs => match takeC sl xs with
    | none => none
    | some (ds, ks) => match x with
      | .d (.int k n) => some (.int k n :: ds, ks)
      | .d (.bool b) => some (.bool b :: ds, ks)
      | .nil t => some (.sl t [] :: ds, ks)
      | .ref s => match sl[s]? with
        | some (.arr t true es) => if s ∈ ks then none else some (.sl t es :: ds, s :: ks)
        | _ => none
      | _ => none
/-- Cells that from now on are data that stay: the slots that die for it. -/
def freezeC (sl : List Slot) : List V → Option (List D × List Nat)
  | [] => some ([], [])
  | x :: xs => match freezeC sl xs with
    | none => none
    | some (ds, ks) => match x with
      | .d d => some (d :: ds, ks)
      | .nil t => some (.sl t [] :: ds, ks)
      | .ref s => match sl[s]? with
        | some (.arr t _ es) => if s ∈ ks then none else some (.sl t es :: ds, s :: ks)
        | _ => none
      | _ => none
/-- A value that from now on is data that stay. -/
def freezeV (P : Program) (sl : List Slot) (x : V) : Option (D × List Nat) :=
  match x with
  | .lit s n => match sl[s]? with
    | some (.var e cells) => match freezeC sl cells with
      | some (ds, ks) => if cells.length = n * P.cellsOf e ∧ n ≤ 9223372036854775807 then some (.sl e (chunks (P.cellsOf e) n ds), s :: ks) else none
      | none => none
    | _ => none
  | x => match freezeC sl [x] with
    | some ([d], ks) => some (d, ks)
    | _ => none
def storeV (P : Program) (st : Bool) (t : TypeId) (sl : List Slot) (p y : V) : Option (List Slot) :=
  match p with
  | .ptr s o => match sl[s]? with
    | some (.var t' xs) => if (cellsV y).length = P.cellsOf t ∧ o + (cellsV y).length ≤ xs.length ∧ (cellsV y).all V.cell = true ∧ P.cellsOf t ≠ 0 then some (sl.set s (.var t' (putAt xs o (cellsV y)))) else none
    | _ => none
  | .eptr s n i j => match sl[s]? with
    | some (.arr t' ow es) => match es[i]? with
      | some e => if n = P.cellsOf t' ∧ (cellsV y).length = P.cellsOf t ∧ j + (cellsV y).length ≤ e.length ∧ (cellsV y).all V.cell = true ∧ P.cellsOf t ≠ 0 then
          match ow, takeC sl (cellsV y) with
          | true, some (ds, ks) => if s ∈ ks then none else some (kill ks (sl.set s (.arr t' true (es.set i (putAt e j ds)))))
          | _, _ => if st = false then match freezeC sl (cellsV y) with
              | some (ds, ks) => if s ∈ ks then none else some ((kill ks sl).set s (.arr t' false (es.set i (putAt e j ds))))
              | none => none
            else none
        else none
      | none => none
    | _ => none
  | _ => none

/-! ### Counting blocks -/
abbrev cnt (q : Nat) (Fs : List (List Nat)) : Nat := Fs.flatten.count q
theorem cnt_set (q : Nat) : ∀ {Fs : List (List Nat)} {s : Nat} {F F' : List Nat}, Fs[s]? = some F → cnt q (Fs.set s F') + F.count q = cnt q Fs + F'.count q
  | [], s, F, F', h => by simp at h
  | f :: Fs, 0, F, F', h => by
    simp at h
    subst h
    simp [cnt]
    omega
  | f :: Fs, s + 1, F, F', h => by
    have := cnt_set q (Fs := Fs) (s := s) (F := F) (F' := F') (by simpa using h)
    simp [cnt] at this ⊢
    omega
theorem nodup_cnt {Fs Fs' : List (List Nat)} (h : Fs.flatten.Nodup) (hc : ∀ q, cnt q Fs' ≤ cnt q Fs) : Fs'.flatten.Nodup := by
  rw [List.nodup_iff_count] at h ⊢
  exact fun a => Nat.le_trans (hc a) (h a)
theorem mem_cnt {Fs Fs' : List (List Nat)} (hc : ∀ q, cnt q Fs' ≤ cnt q Fs) {q : Nat} (h : q ∈ Fs'.flatten) : q ∈ Fs.flatten := by
  rw [← List.count_pos_iff] at h ⊢
  exact Nat.lt_of_lt_of_le h (hc q)
def killF : List Nat → List (List Nat) → List (List Nat)
  | [], Fs => Fs
  | k :: ks, Fs => killF ks (Fs.set k [])
theorem killF_len : ∀ (ks : List Nat) (Fs : List (List Nat)), (killF ks Fs).length = Fs.length
  | [], _ => rfl
  | k :: ks, Fs => by rw [killF, killF_len ks, List.length_set]
theorem kill_len : ∀ (ks : List Nat) (sl : List Slot), (kill ks sl).length = sl.length
  | [], _ => rfl
  | k :: ks, sl => by rw [kill, kill_len ks, List.length_set]
theorem killF_at : ∀ (ks : List Nat) (Fs : List (List Nat)) (s : Nat), (killF ks Fs)[s]? = if s ∈ ks ∧ s < Fs.length then some [] else Fs[s]?
  | [], Fs, s => by simp [killF]
  | k :: ks, Fs, s => by
    rw [killF, killF_at ks, List.length_set]
    by_cases h1 : s ∈ ks ∧ s < Fs.length
    · rw [if_pos h1, if_pos ⟨by simp [h1.1], h1.2⟩]
    · rw [if_neg h1]
      by_cases h2 : k = s
      · subst h2
        by_cases h3 : k < Fs.length
        · rw [List.getElem?_set_self h3, if_pos ⟨by simp, h3⟩]
        · rw [if_neg (fun h => h3 h.2), List.getElem?_eq_none (by simp; omega), List.getElem?_eq_none (by omega)]
      · rw [List.getElem?_set_ne h2, if_neg (fun h => h1 ⟨(List.mem_cons.1 h.1).resolve_left (fun e => h2 e.symm), h.2⟩)]
theorem kill_at : ∀ (ks : List Nat) (sl : List Slot) (s : Nat), (kill ks sl)[s]? = if s ∈ ks ∧ s < sl.length then some .dead else sl[s]?
  | [], sl, s => by simp [kill]
  | k :: ks, sl, s => by
    rw [kill, kill_at ks, List.length_set]
    by_cases h1 : s ∈ ks ∧ s < sl.length
    · rw [if_pos h1, if_pos ⟨by simp [h1.1], h1.2⟩]
    · rw [if_neg h1]
      by_cases h2 : k = s
      · subst h2
        by_cases h3 : k < sl.length
        · rw [List.getElem?_set_self h3, if_pos ⟨by simp, h3⟩]
        · rw [if_neg (fun h => h3 h.2), List.getElem?_eq_none (by simp; omega), List.getElem?_eq_none (by omega)]
      · rw [List.getElem?_set_ne h2, if_neg (fun h => h1 ⟨(List.mem_cons.1 h.1).resolve_left (fun e => h2 e.symm), h.2⟩)]
/-- The blocks of some slots. -/
def ofSlots (Fs : List (List Nat)) (ks : List Nat) : List Nat := (ks.map fun k => (Fs[k]?).getD []).flatten
theorem cnt_killF (q : Nat) : ∀ {ks : List Nat} {Fs : List (List Nat)}, ks.Nodup → (∀ k ∈ ks, k < Fs.length) → cnt q (killF ks Fs) + (ofSlots Fs ks).count q = cnt q Fs
  | [], Fs, _, _ => by simp [killF, ofSlots]
  | k :: ks, Fs, hn, hl => by
    have hk : k < Fs.length := hl k (by simp)
    have hF : Fs[k]? = some Fs[k] := List.getElem?_eq_getElem hk
    rw [List.nodup_cons] at hn
    have ih := cnt_killF q (ks := ks) (Fs := Fs.set k []) hn.2 (fun j hj => by rw [List.length_set]; exact hl j (by simp [hj]))
    have hset := cnt_set q (F' := []) hF
    have hof : ofSlots (Fs.set k []) ks = ofSlots Fs ks := by
      unfold ofSlots
      congr 1
      apply List.map_congr_left
      intro j hj
      rw [List.getElem?_set_ne (fun e : k = j => hn.1 (by rw [e]; exact hj))]
    rw [hof] at ih
    have hc : ofSlots Fs (k :: ks) = Fs[k] ++ ofSlots Fs ks := by simp [ofSlots, hF]
    rw [killF, hc, List.count_append]
    simp only [List.count_nil, Nat.add_zero] at hset
    omega

section
variable {P : Program} {w0 : Base} {w w' : World} {φ φ' : Hdrs} {σ : St} {a : Act} {sl sl' : List Slot} {Fs Fs' : List (List Nat)}
/-- What an operation may turn. -/
def Turn (P : Program) (w0 : Base) (φ : Hdrs) (sl : List Slot) (w : World) (φ' : Hdrs) (sl' : List Slot) (w' : World) : Prop := (∃ Fs', MemR P w0 φ' sl' w' Fs') ∧ Ext w0.R φ sl w φ' sl' w'
theorem MemR.turn (h : MemR P w0 φ sl w Fs) {S : List Nat} (hO : Only S w w') (hS : ∀ b ∈ S, top φ sl b ∨ w.heap.size ≤ b) (hl : φ'.length = sl'.length) (hF : Fs'.length = sl'.length) (nd : Fs'.flatten.Nodup) (ge : ∀ g ∈ Fs'.flatten, w0.B g ∨ w0.w.heap.size ≤ g)
    (hs : ∀ (s : Nat) (x : Slot), sl[s]? = some x → ∃ x', sl'[s]? = some x' ∧ Later x x') (hp : ∀ (s : Nat) (h : Option Nat × Nat), φ[s]? = some h → sl[s]? ≠ some .unborn → φ'[s]? = some h) (hT : ∀ b, top φ' sl' b → w.heap.size ≤ b ∨ top φ sl b)
    (hn : ∀ (s : Nat) (x : Slot) (h : Option Nat × Nat) (F : List Nat), sl'[s]? = some x → φ'[s]? = some h → Fs'[s]? = some F → (sl[s]? = some x ∧ φ[s]? = some h ∧ Fs[s]? = some F ∧ ∀ b ∈ F, b ∉ S) ∨ SR P w' (good w0.R φ' sl' w') φ' sl' x h F) :
    Turn P w0 φ sl w φ' sl' w' := ⟨⟨Fs', h.step hO hS hl hF nd ge hs hp hT hn⟩, good_mono hO hS hT, hs, hp⟩
theorem Turn.refl (h : ∃ Fs, MemR P w0 φ sl w Fs) : Turn P w0 φ sl w φ sl w := ⟨h, fun _ hb => ⟨hb, fun _ => rfl⟩, fun s x hx => ⟨x, hx, Later.refl x⟩, fun _ _ h _ => h⟩
theorem Rel.turn (h : Rel P w0 φ σ a w) (ht : Turn P w0 φ σ.slots w φ' sl' w') {x : V} {v : Value} (hx : VR w' (good w0.R φ' sl' w') φ' sl' x v) (dst : Option Nat) : Rel P w0 φ' (St.put ⟨σ.tmps, sl'⟩ dst x) (a.put dst v) w' := by
  obtain ⟨hm, he⟩ := ht
  have old : ∀ (i : Nat) (y : V) (u : Value), σ.tmps[i]? = some y → a.tmps[i]? = some u → VR w' (good w0.R φ' sl' w') φ' sl' y u := fun i y u hy hu => (h.tmps i y u hy hu).mono he.hk he.hs he.hp
  cases dst with
  | none => exact ⟨hm, h.defers, h.tlen, old⟩
  | some d =>
    refine ⟨hm, h.defers, by simp [Act.put, St.put, h.tlen], fun i y u hy hu => ?_⟩
    simp only [St.put, Act.put] at hy hu ⊢
    by_cases hd : i = d
    · subst hd
      by_cases hl : i < σ.tmps.length
      · rw [List.getElem?_set_self hl] at hy
        rw [Array.getElem?_setIfInBounds_self_of_lt (by rw [h.tlen]; exact hl)] at hu
        cases hy
        cases hu
        exact hx
      · rw [List.getElem?_eq_none (by simp; omega)] at hy
        cases hy
    · rw [List.getElem?_set_ne (fun e => hd e.symm)] at hy
      rw [Array.getElem?_setIfInBounds_ne (fun e => hd e.symm)] at hu
      exact old i y u hy hu
theorem only_setRow {g : Nat} {cur cs : Array Value} {t : TypeId} (hg : w.heap[g]? = some (.cells cur t (0, 0))) : Only [g] w (w.setRow g cs) ∧ (w.setRow g cs).heap[g]? = some (.cells cs t (0, 0)) :=
  ⟨⟨rfl, rfl, rfl, by simp, fun k _ hk => setRow_other w g k cs (by simpa using hk)⟩, setRow_heap w g cur cs t (0, 0) hg⟩
/-- New slots at the end. -/
theorem turn_made (hm : MemR P w0 φ sl w Fs) {x : V} {news : List Slot} {v : Value} (h : QPost w0.R P sl.length φ sl w x news v w') : ∃ φ', Turn P w0 φ sl w φ' (sl ++ news) w' ∧ VR w' (good w0.R φ' (sl ++ news) w') φ' (sl ++ news) x v := by
  obtain ⟨ψ, Fn, hmade, hq⟩ := h
  have hO : Only [] w w' := Only.of_below hmade.below
  have hs : ∀ (s : Nat) (x : Slot), sl[s]? = some x → ∃ x', (sl ++ news)[s]? = some x' ∧ Later x x' := fun s x hx => ⟨x, by rw [List.getElem?_append_left (List.getElem?_eq_some_iff.1 hx).1]; exact hx, Later.refl x⟩
  have hp : ∀ (s : Nat) (h : Option Nat × Nat), φ[s]? = some h → sl[s]? ≠ some .unborn → (φ ++ ψ)[s]? = some h := fun s h hh _ => by rw [List.getElem?_append_left (List.getElem?_eq_some_iff.1 hh).1]; exact hh
  have hT : ∀ b, top (φ ++ ψ) (sl ++ news) b → w.heap.size ≤ b ∨ top φ sl b := by
    rintro b ⟨s, x, c, h1, h2, h3⟩
    by_cases hsl : s < sl.length
    · rw [List.getElem?_append_left hsl] at h1
      rw [List.getElem?_append_left (by rw [hm.flen]; exact hsl)] at h3
      exact .inr ⟨s, x, c, h1, h2, h3⟩
    · rw [List.getElem?_append_right (by rw [hm.flen]; omega)] at h3
      exact .inl (hmade.hd _ b c h3)
  have he : Ext w0.R φ sl w (φ ++ ψ) (sl ++ news) w' := ⟨good_mono hO (by simp) hT, hs, hp⟩
  obtain ⟨q1, q2⟩ := hq _ _ he (fun i hi => ⟨by rw [List.getElem?_append_right (by omega), Nat.add_sub_cancel_left], by rw [List.getElem?_append_right (by rw [hm.flen]; omega), hm.flen, Nat.add_sub_cancel_left]⟩)
  refine ⟨φ ++ ψ, hm.turn (Fs' := Fs ++ Fn) hO (by simp) (by simp [hm.flen, hmade.plen]) (by simp [hm.Flen, hmade.Flen]) ?_ ?_ hs hp hT ?_, q2⟩
  · rw [List.flatten_append, List.nodup_append]
    refine ⟨hm.nd, hmade.nd, fun x hx y hy e => ?_⟩
    have h1 := hm.lt x hx
    have h2 := hmade.ge y hy
    omega
  · intro g hg
    rw [List.flatten_append, List.mem_append] at hg
    rcases hg with hg | hg
    · exact hm.ge g hg
    · have := hmade.ge g hg
      have := hm.only.size
      exact .inr (by omega)
  · intro s x h F h1 h2 h3
    by_cases hsl : s < sl.length
    · rw [List.getElem?_append_left hsl] at h1
      rw [List.getElem?_append_left (by rw [hm.flen]; exact hsl)] at h2
      rw [List.getElem?_append_left (by rw [hm.Flen]; exact hsl)] at h3
      exact .inl ⟨h1, h2, h3, by simp⟩
    · rw [List.getElem?_append_right (by omega)] at h1
      rw [List.getElem?_append_right (by rw [hm.flen]; omega), hm.flen] at h2
      rw [List.getElem?_append_right (by rw [hm.Flen]; omega), hm.Flen] at h3
      exact .inr (q1 _ x h F h1 h2 h3)

theorem Later.trans {x y z : Slot} (h : Later x y) (k : Later y z) : Later x z := by
  cases x <;> cases y <;> simp only [Later] at h <;> cases z <;> simp only [Later] at k ⊢
  omega
theorem Turn.trans {w1 : World} {φ1 : Hdrs} {sl1 : List Slot} (hl : φ.length = sl.length) (h : Turn P w0 φ sl w φ1 sl1 w1) (k : Turn P w0 φ1 sl1 w1 φ' sl' w') : Turn P w0 φ sl w φ' sl' w' := by
  refine ⟨k.1, fun b hb => ?_, fun s x hx => ?_, fun s hd hh hu => ?_⟩
  · obtain ⟨h1, h2⟩ := h.2.hk b hb
    obtain ⟨k1, k2⟩ := k.2.hk b h1
    exact ⟨k1, fun o => (k2 o).trans (h2 o)⟩
  · obtain ⟨y, h1, h2⟩ := h.2.hs s x hx
    obtain ⟨z, k1, k2⟩ := k.2.hs s y h1
    exact ⟨z, k1, h2.trans k2⟩
  · refine k.2.hp s hd (h.2.hp s hd hh hu) fun hu' => ?_
    have hs : s < sl.length := by rw [← hl]; exact (List.getElem?_eq_some_iff.1 hh).1
    obtain ⟨y, h1, h2⟩ := h.2.hs s _ (List.getElem?_eq_getElem hs)
    rw [h1] at hu'
    cases hu'
    exact h2.unborn (fun e => hu (by rw [List.getElem?_eq_getElem hs, e])) rfl
/-- Slots die, and what they held stays as data. -/
theorem freeze_turn (hst : w0.st = false) (hm : MemR P w0 φ sl w Fs) {ks : List Nat} (hks : ks.Nodup) (hk : ∀ k ∈ ks, ∃ x, sl[k]? = some x ∧ x.live) :
    Turn P w0 φ sl w φ (kill ks sl) w ∧ (∀ b, good w0.R φ sl w b → good w0.R φ (kill ks sl) w b) ∧ ∀ k ∈ ks, ∀ F, Fs[k]? = some F → ∀ b ∈ F, good w0.R φ (kill ks sl) w b := by
  have hkl : ∀ k ∈ ks, k < sl.length := fun k h => by obtain ⟨_, h1, _⟩ := hk k h; exact (List.getElem?_eq_some_iff.1 h1).1
  have hcnt : ∀ q, cnt q (killF ks Fs) ≤ cnt q Fs := fun q => by have := cnt_killF q hks (fun k h => by rw [hm.Flen]; exact hkl k h); omega
  have old : ∀ {i : Nat} {x : Slot}, (kill ks sl)[i]? = some x → (i ∈ ks ∧ x = .dead) ∨ (i ∉ ks ∧ sl[i]? = some x) := by
    intro i x hx
    rw [kill_at] at hx
    by_cases h : i ∈ ks ∧ i < sl.length
    · rw [if_pos h] at hx; cases hx; exact .inl ⟨h.1, rfl⟩
    · rw [if_neg h] at hx
      exact .inr ⟨fun hi => h ⟨hi, hkl i hi⟩, hx⟩
  have hT : ∀ b, top φ (kill ks sl) b → top φ sl b := by
    rintro b ⟨s, x, c, h1, h2, h3⟩
    rcases old h1 with ⟨_, rfl⟩ | ⟨_, h1⟩
    · exact h2.elim
    · exact ⟨s, x, c, h1, h2, h3⟩
  have hlt : ∀ (s : Nat) (x : Slot), sl[s]? = some x → ∃ x', (kill ks sl)[s]? = some x' ∧ Later x x' := by
    intro s x hx
    rw [kill_at]
    by_cases h : s ∈ ks ∧ s < sl.length
    · obtain ⟨x', h1, h2⟩ := hk s h.1
      rw [hx] at h1
      cases h1
      exact ⟨.dead, by rw [if_pos h], by cases x <;> simp_all [Slot.live, Later]⟩
    · exact ⟨x, by rw [if_neg h]; exact hx, Later.refl x⟩
  have ht : Turn P w0 φ sl w φ (kill ks sl) w := by
    refine hm.turn (Fs' := killF ks Fs) (Only.refl [] w) (by simp) (by rw [kill_len, hm.flen]) (by rw [kill_len, killF_len, hm.Flen]) (nodup_cnt hm.nd hcnt) (fun q hq => hm.ge q (mem_cnt hcnt hq)) hlt (fun _ _ h _ => h) (fun b hb => .inr (hT b hb)) (fun s x h F q1 q2 q3 => ?_)
    rw [killF_at] at q3
    rcases old q1 with ⟨h1, rfl⟩ | ⟨h1, q1⟩
    · rw [if_pos ⟨h1, by rw [hm.Flen]; exact hkl s h1⟩] at q3
      cases q3
      exact .inr rfl
    · rw [if_neg (fun h => h1 h.1)] at q3
      exact .inl ⟨q1, q2, q3, by simp⟩
  refine ⟨ht, fun b hb => (ht.2.hk b hb).1, fun k hkk F hF b hb => ⟨hm.lt b (mem_flat hF hb), ?_, hm.rd hst (mem_flat hF hb)⟩⟩
  rintro ⟨s, x, c, h1, h2, h3⟩
  rcases old h1 with ⟨_, rfl⟩ | ⟨h4, h1⟩
  · exact h2
  · obtain ⟨hd, F2, k1, k2, k3⟩ := hm.at_ h1
    rw [h3] at k1
    cases k1
    exact flat_disj hm.nd hF k2 (fun e => h4 (e ▸ hkk)) b hb (k3.head h2)
theorem freezeC_sound (hm : MemR P w0 φ sl w Fs) {G : Nat → Prop} (hG : ∀ b, good w0.R φ sl w b → G b) : ∀ {xs : List V} {ds : List D} {ks : List Nat} {vs : List Value}, freezeC sl xs = some (ds, ks) → vs.length = xs.length → (∀ (i : Nat) (x : V) (v : Value), xs[i]? = some x → vs[i]? = some v → VR w (good w0.R φ sl w) φ sl x v) →
    ks.Nodup ∧ (∀ k ∈ ks, ∃ t ow es, sl[k]? = some (.arr t ow es)) ∧ ds.length = xs.length ∧ ((∀ k ∈ ks, ∀ F, Fs[k]? = some F → ∀ b ∈ F, G b) → Rds w G ds vs [])
  | [], ds, ks, vs, h, hl, _ => by
    simp [freezeC] at h
    obtain ⟨rfl, rfl⟩ := h
    refine ⟨by simp, by simp, rfl, fun _ => ⟨rfl, hl, fun i d hd => by simp at hd⟩⟩
  | x :: xs, ds, ks, [], h, hl, _ => by simp at hl
  | x :: xs, ds, ks, v :: vs, h, hl, hv => by
    unfold freezeC at h
    split at h
    · cases h
    rename_i ds' ks' h0
    obtain ⟨i1, i2, i3, i4⟩ := freezeC_sound hm hG h0 (vs := vs) (by simpa using hl) (fun i x v hx hv' => hv (i + 1) x v (by simpa using hx) (by simpa using hv'))
    have hx := hv 0 x v rfl rfl
    have cons : ∀ {d : D} {ks2 : List Nat}, (∀ k ∈ ks', k ∈ ks2) → ((∀ k ∈ ks2, ∀ F, Fs[k]? = some F → ∀ b ∈ F, G b) → Rd w G d v) → (∀ k ∈ ks2, ∀ F, Fs[k]? = some F → ∀ b ∈ F, G b) → Rds w G (d :: ds') (v :: vs) [] := by
      intro d ks2 hsub hd hF
      obtain ⟨_, r1, r2⟩ := i4 (fun k hk => hF k (hsub k hk))
      refine ⟨rfl, by simp [r1], fun i e he => ?_⟩
      match i with
      | 0 => simp at he; subst he; exact ⟨v, rfl, hd hF⟩
      | i + 1 => simp at he; simpa using r2 i e he
    split at h
    · cases h
      refine ⟨i1, i2, by simp [i3], cons (fun _ h => h) fun _ => ?_⟩
      cases hx with | d h => exact h.mono fun b hb => ⟨hG b hb, fun _ => rfl⟩
    · cases h
      refine ⟨i1, i2, by simp [i3], cons (fun _ h => h) fun _ => ?_⟩
      cases hx
      exact .nil _ _ _
    · split at h
      · rename_i s _ t ow es hs
        split at h
        · cases h
        · rename_i hn
          cases h
          refine ⟨List.nodup_cons.2 ⟨hn, i1⟩, fun k hk => ?_, by simp [i3], cons (fun k hk => List.mem_cons_of_mem _ hk) fun hF => ?_⟩
          · rcases List.mem_cons.1 hk with rfl | hk
            · exact ⟨_, _, _, hs⟩
            · exact i2 k hk
          · exact presD_rd (x := .ref s) (by simp [presD, hs]) hm hx hG fun s' e F hF' => by cases e; exact hF _ (by simp) F hF'
      · cases h
    · cases h
/-- A value becomes data that stay. -/
theorem freezeV_sound (hst : w0.st = false) (hm : MemR P w0 φ sl w Fs) {x : V} {d : D} {ks : List Nat} {v : Value} (h : freezeV P sl x = some (d, ks)) (hx : VR w (good w0.R φ sl w) φ sl x v) :
    Turn P w0 φ sl w φ (kill ks sl) w ∧ VR w (good w0.R φ (kill ks sl) w) φ (kill ks sl) (.d d) v := by
  unfold freezeV at h
  split at h
  · rename_i s n
    split at h
    · rename_i e cells hs
      split at h
      · rename_i ds ks' hc
        split at h
        · rename_i hl
          cases h
          cases hx with
          | litgone h1 => rw [hs] at h1; cases h1
          | @lit _ _ t2 xs g c2 h1 h2 =>
            rw [hs] at h1
            cases h1
            obtain ⟨hd, F3, k1, k2, k3⟩ := hm.at_ hs
            rw [h2] at k1
            cases k1
            obtain ⟨g', cur, e1, e2, e3, e4, e5⟩ := k3
            cases e1
            subst e2
            have hcv : ∀ (i : Nat) (x : V) (v : Value), cells[i]? = some x → cur.toList[i]? = some v → VR w (good w0.R φ sl w) φ sl x v := fun i x v hx hv => (e5 i x v hx (by simpa using hv)).1
            obtain ⟨f1, f2, _, _⟩ := freezeC_sound hm (G := fun _ => True) (fun _ _ => trivial) hc (vs := cur.toList) (by simp [e4]) hcv
            have hsk : s ∉ ks' := fun hk => by obtain ⟨_, _, _, h3⟩ := f2 s hk; rw [hs] at h3; cases h3
            obtain ⟨t1, t2, t3⟩ := freeze_turn hst hm (ks := s :: ks') (List.nodup_cons.2 ⟨hsk, f1⟩) (fun k hk => by
              rcases List.mem_cons.1 hk with rfl | hk
              · exact ⟨_, hs, trivial⟩
              · obtain ⟨_, _, _, h3⟩ := f2 k hk; exact ⟨_, h3, trivial⟩)
            refine ⟨t1, .d ?_⟩
            obtain ⟨_, _, f3, f4⟩ := freezeC_sound hm (G := good w0.R φ (kill (s :: ks') sl) w) t2 hc (vs := cur.toList) (by simp [e4]) hcv
            obtain ⟨_, r1, r2⟩ := f4 (fun k hk => t3 k (by simp [hk]))
            have hdl : ds.length = n * P.cellsOf e := by rw [f3, hl.1]
            have hat : ∀ {i : Nat} {x : List D}, (chunks (P.cellsOf e) n ds)[i]? = some x → i < n ∧ x = (ds.drop (i * P.cellsOf e)).take (P.cellsOf e) := by
              intro i x hx
              have hi : i < n := by have := (List.getElem?_eq_some_iff.1 hx).1; rwa [chunks_len] at this
              rw [chunks_at hi] at hx
              exact ⟨hi, (Option.some.inj hx).symm⟩
            have key : ∀ {i : Nat} {x : List D} {j : Nat} {d : D}, (chunks (P.cellsOf e) n ds)[i]? = some x → x[j]? = some d → ∃ v, cur[i * P.cellsOf e + j]? = some v ∧ Rd w (good w0.R φ (kill (s :: ks') sl) w) d v := by
              intro i x j d hx hd
              obtain ⟨_, rfl⟩ := hat hx
              rw [List.getElem?_take, List.getElem?_drop] at hd
              split at hd
              · obtain ⟨v, h3, h4⟩ := r2 _ d hd
                exact ⟨v, by simpa using h3, h4⟩
              · cases hd
            have hlen : (chunks (P.cellsOf e) n ds).length = n := chunks_len _ _
            have := Rd.sl (w := w) (G := good w0.R φ (kill (s :: ks') sl) w) e (chunks (P.cellsOf e) n ds) g 0 n (P.cellsOf e) (fun i j => (cur[i * P.cellsOf e + j]?).getD default) (by omega) (by omega) (t3 s (by simp) _ k2 g (by simp)) (fun x hx => ?_)
              (fun i x j d hx hd => by
                obtain ⟨v, h3, _⟩ := key hx hd
                rw [cell_of_row w g _ cur e (0, 0) e3, Nat.zero_add, h3]
                rfl) (fun i x j d hx hd => by
                obtain ⟨v, h3, h4⟩ := key hx hd
                rw [h3]
                exact h4)
            · rw [hlen] at this; exact this
            · obtain ⟨i, hi, rfl⟩ := List.mem_iff_getElem.1 hx
              obtain ⟨hin, he⟩ := hat (List.getElem?_eq_getElem hi)
              rw [he]
              have := mul_seg' hin (P.cellsOf e)
              simp [hdl]
              omega
        · cases h
      · cases h
    · cases h
  · split at h
    · rename_i h0
      cases h
      have hv1 : ∀ (i : Nat) (x' : V) (v' : Value), [x][i]? = some x' → [v][i]? = some v' → VR w (good w0.R φ sl w) φ sl x' v' := by
        intro i x' v' hx' hv'
        match i with
        | 0 => simp at hx' hv'; subst hx' hv'; exact hx
        | i + 1 => simp at hx'
      obtain ⟨f1, f2, _, _⟩ := freezeC_sound hm (G := fun _ => True) (fun _ _ => trivial) h0 (vs := [v]) rfl hv1
      obtain ⟨t1, t2, t3⟩ := freeze_turn hst hm f1 (fun k hk => by obtain ⟨_, _, _, h3⟩ := f2 k hk; exact ⟨_, h3, trivial⟩)
      refine ⟨t1, .d ?_⟩
      obtain ⟨_, _, _, f4⟩ := freezeC_sound hm (G := good w0.R φ (kill ks sl) w) t2 h0 (vs := [v]) rfl hv1
      obtain ⟨_, _, r2⟩ := f4 t3
      obtain ⟨v', h3, h4⟩ := r2 0 _ rfl
      simp at h3
      subst h3
      exact h4
    · cases h

/-! ### Stores -/
theorem run_storeAt {t t' : TypeId} {g o : Nat} {v : Value} {cur : Array Value} (hz : P.cellsOf t ≠ 0) (hl : v.cells.size = P.cellsOf t) (hg : w.heap[g]? = some (.cells cur t' (0, 0))) (ho : o + v.cells.size ≤ cur.size) (h1 : ∀ u ∈ v.cells.toList, u.oneCell' = true) :
    (Instr.storeAt t (.pointer (some ⟨g, o, none⟩)) v).run P w = .ok () (w.setRow g (putAt cur.toList o v.cells.toList).toArray) := by
  have := run_storeCells_at (P := P) g o t' v.cells.toList 0 cur w hg (by simpa using ho) h1
  simp only [Nat.add_zero] at this
  simp [Instr.storeAt, Instr.sureAddr, storeVar, run_sizeOf0 hz, hl, this, putAt]
theorem VRs.oneAll {G : Nat → Prop} {xs : List V} {vs : List Value} (h : VRs w G φ sl xs vs) : ∀ u ∈ vs, u.oneCell' = true := by
  intro u hu
  obtain ⟨i, hi, rfl⟩ := List.mem_iff_getElem.1 hu
  exact (h.2 i (xs[i]'(by rw [← h.1]; exact hi)) _ (List.getElem?_eq_getElem _) (List.getElem?_eq_getElem hi)).2
theorem set_at {α : Type} {xs : List α} {s i : Nat} {x y : α} (h : (xs.set s x)[i]? = some y) : (i = s ∧ y = x ∧ s < xs.length) ∨ (i ≠ s ∧ xs[i]? = some y) := by
  by_cases hi : i = s
  · subst hi
    have hl : i < xs.length := by have := (List.getElem?_eq_some_iff.1 h).1; simpa using this
    rw [List.getElem?_set_self hl] at h
    exact .inl ⟨rfl, (Option.some.inj h).symm, hl⟩
  · rw [List.getElem?_set_ne (fun e => hi e.symm)] at h
    exact .inr ⟨hi, h⟩
theorem store_var {s o : Nat} {t t' : TypeId} {xs : List V} {y : V} {v u : Value} (hm : MemR P w0 φ sl w Fs) (hs : sl[s]? = some (.var t' xs)) (h1 : (cellsV y).length = P.cellsOf t) (h2 : o + (cellsV y).length ≤ xs.length) (h3 : (cellsV y).all V.cell = true) (hz : P.cellsOf t ≠ 0)
    (hp : VR w (good w0.R φ sl w) φ sl (.ptr s o) u) (hy : VR w (good w0.R φ sl w) φ sl y v) : ∃ w', (Instr.storeAt t u v).run P w = .ok () w' ∧ Turn P w0 φ sl w φ (sl.set s (.var t' (putAt xs o (cellsV y)))) w' := by
  cases hp with
  | lost k1 => rw [hs] at k1; cases k1
  | @ptr _ _ x g c k1 k2 k3 =>
    rw [hs] at k1
    cases k1
    obtain ⟨hd, F, k4, k5, k6⟩ := hm.at_ hs
    rw [k3] at k4
    cases k4
    obtain ⟨g', cur, e1, e2, e3, e4, e5⟩ := k6
    cases e1
    subst e2
    have hc := hy.cells h3
    have hcl : v.cells.size = (cellsV y).length := by rw [← hc.1]; simp
    have hle : o + v.cells.size ≤ cur.size := by rw [hcl, e4]; exact h2
    refine ⟨_, run_storeAt hz (by rw [hcl, h1]) e3 hle hc.oneAll, ?_⟩
    obtain ⟨hO, hg⟩ := only_setRow (cs := (putAt cur.toList o v.cells.toList).toArray) e3
    have htop : top φ sl g := ⟨s, _, c, hs, trivial, k3⟩
    have hT : ∀ b, top φ (sl.set s (.var t' (putAt xs o (cellsV y)))) b → w.heap.size ≤ b ∨ top φ sl b := by
      rintro b ⟨s2, x2, c2, q1, q2, q3⟩
      rcases set_at q1 with ⟨rfl, rfl, _⟩ | ⟨_, q1⟩
      · exact .inr ⟨_, _, c2, hs, trivial, q3⟩
      · exact .inr ⟨s2, x2, c2, q1, q2, q3⟩
    have hsl : ∀ (i : Nat) (x : Slot), sl[i]? = some x → ∃ x', (sl.set s (.var t' (putAt xs o (cellsV y))))[i]? = some x' ∧ Later x x' := by
      intro i x hx
      by_cases hi : i = s
      · subst hi
        rw [hs] at hx
        cases hx
        exact ⟨_, List.getElem?_set_self (List.getElem?_eq_some_iff.1 hs).1, trivial⟩
      · exact ⟨x, by rw [List.getElem?_set_ne (fun e => hi e.symm)]; exact hx, Later.refl x⟩
    have hS : ∀ b ∈ [g], top φ sl b ∨ w.heap.size ≤ b := fun b hb => by rw [List.mem_singleton.1 hb]; exact .inl htop
    refine hm.turn (Fs' := Fs) hO hS (by simp [hm.flen]) (by simp [hm.Flen]) hm.nd hm.ge hsl (fun _ _ h _ => h) hT (fun i x h F q1 q2 q3 => ?_)
    rcases set_at q1 with ⟨rfl, rfl, _⟩ | ⟨hi, q1⟩
    · rw [k3] at q2
      rw [k5] at q3
      cases q2
      cases q3
      refine .inr ⟨g, _, rfl, rfl, hg, by simp [putAt_length (xs := cur.toList) (o := o) (ys := v.cells.toList) (by simpa using hle), putAt_length h2, e4], fun j x v' hx hv => ?_⟩
      have hcur : VRs w (good w0.R φ sl w) φ sl xs cur.toList := ⟨by simp [e4], fun j x v hx hv => e5 j x v hx (by simpa using hv)⟩
      have := (hcur.put hc h2).2 j x v' hx (by simpa using hv)
      exact ⟨this.1.mono (good_mono hO hS hT) hsl (fun _ _ h _ => h), this.2⟩
    · refine .inl ⟨q1, q2, q3, fun b hb hb2 => ?_⟩
      rw [List.mem_singleton.1 hb2] at hb
      exact flat_disj hm.nd q3 k5 hi g hb (by simp)
end
end Go.Proofs.Ytdliejnmpdodhaa
