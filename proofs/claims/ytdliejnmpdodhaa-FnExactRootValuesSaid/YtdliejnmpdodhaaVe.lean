/-
  Operations that make memory, and calls by their contracts: what they leave, wherever the new slots are listed. Plain lemmas, about no function of the program.
  Conditions: those typed in each theorem.
-/
import Derived.Test.YtdliejnmpdodhaaVd
namespace Go.Proofs.Ytdliejnmpdodhaa
open Go.RowKit Go.ChangeShapes Go.WideShapes
set_option linter.unusedVariables false

/-! ### Contracts -/
/-- What goes into a call, or comes out: data; a struct's cells; several results. -/
inductive X where
  | d (x : D)
  | agg (ds : List D)
  | tup (xs : List X)
inductive XRd (w : World) (G : Nat → Prop) : X → Value → Prop
  | d {x : D} {v : Value} (h : Rd w G x v) : XRd w G (.d x) v
  | agg {ds : List D} {vs : List Value} (h : Rds w G ds vs []) : XRd w G (.agg ds) (.agg vs.toArray)
inductive XOwn (P : Program) (w : World) : X → Value → List Nat → Prop
  | d {x : D} {v : Value} {F : List Nat} (h : Owns P w [x] [v] F) : XOwn P w (.d x) v F
  | agg {ds : List D} {vs : List Value} {F : List Nat} (h : Owns P w ds vs F) : XOwn P w (.agg ds) (.agg vs.toArray) F
inductive XRes (P : Program) (w : World) : X → Value → List Nat → Prop
  | one {x : X} {v : Value} {F : List Nat} (h : XOwn P w x v F) : XRes P w x v F
  | tup {xs : List X} {vs : List Value} {Fs : List (List Nat)} (hl : vs.length = xs.length) (hF : Fs.length = xs.length) (h : ∀ (i : Nat) (x : X) (v : Value) (F : List Nat), xs[i]? = some x → vs[i]? = some v → Fs[i]? = some F → XOwn P w x v F) :
      XRes P w (.tup xs) (.tuple vs.toArray) Fs.flatten
/-- A function's contract at some arguments: it returns just this, in memory of its own. -/
def Con (P : Program) (f : FuncId) (xs : List X) (r : X) : Prop :=
  ∀ (w : World) (vs : List Value), vs.length = xs.length → (∀ (i : Nat) (x : X) (v : Value), xs[i]? = some x → vs[i]? = some v → XRd w (· < w.heap.size) x v) →
    Calls P f vs.toArray w fun e w' => ∃ v F, e = .returned v ∧ XRes P w' r v F ∧ F.Nodup ∧ (∀ g ∈ F, w.heap.size ≤ g) ∧ Below w.heap.size w w'

/-- The data that a value presents. -/
def presD (sl : List Slot) (x : V) : Option D :=
  match x with
  | .d x => some x
  | .nil t => some (.sl t [])
  | .ref s => match sl[s]? with
    | some (.arr t _ es) => some (.sl t es)
    | _ => none
  | _ => none
def presDs (sl : List Slot) : List V → Option (List D)
  | [] => some []
  | x :: xs => match presD sl x, presDs sl xs with
    | some d, some ds => some (d :: ds)
    | _, _ => none
def pres (sl : List Slot) (x : V) : Option X :=
  match x with
  | .agg xs => (presDs sl xs).map .agg
  | x => (presD sl x).map .d
def presAll (sl : List Slot) : List V → Option (List X)
  | [] => some []
  | x :: xs => match pres sl x, presAll sl xs with
    | some d, some ds => some (d :: ds)
    | _, _ => none
/-- A result as values: each slice a slot of its own. -/
def instD (n : Nat) (x : D) : V × List Slot :=
  match x with
  | .sl t es => (.ref n, [.arr t true es])
  | x => (.d x, [])
def instDs (n : Nat) : List D → List V × List Slot
  | [] => ([], [])
  | x :: xs => ((instD n x).1 :: (instDs (n + (instD n x).2.length) xs).1, (instD n x).2 ++ (instDs (n + (instD n x).2.length) xs).2)
def inst1 (n : Nat) (x : X) : V × List Slot :=
  match x with
  | .d x => instD n x
  | .agg ds => (.agg (instDs n ds).1, (instDs n ds).2)
  | .tup _ => (.any, [])
def inst1s (n : Nat) : List X → List V × List Slot
  | [] => ([], [])
  | x :: xs => ((inst1 n x).1 :: (inst1s (n + (inst1 n x).2.length) xs).1, (inst1 n x).2 ++ (inst1s (n + (inst1 n x).2.length) xs).2)
def inst (n : Nat) (x : X) : V × List Slot :=
  match x with
  | .tup xs => (.tup (inst1s n xs).1, (inst1s n xs).2)
  | x => inst1 n x

/-! ### New memory, wherever the slots are listed -/
structure Ext (R : Nat → Prop) (φ : Hdrs) (sl : List Slot) (w : World) (φ' : Hdrs) (sl' : List Slot) (w' : World) : Prop where
  hk : ∀ b, good R φ sl w b → good R φ' sl' w' b ∧ ∀ o, w'.cell? ⟨b, o, none⟩ = w.cell? ⟨b, o, none⟩
  hs : ∀ (s : Nat) (x : Slot), sl[s]? = some x → ∃ x', sl'[s]? = some x' ∧ Later x x'
  hp : ∀ (s : Nat) (h : Option Nat × Nat), φ[s]? = some h → sl[s]? ≠ some .unborn → φ'[s]? = some h
/-- Slots listed from place n on. -/
def Placed (n : Nat) (ψ : Hdrs) (news : List Slot) (φ' : Hdrs) (sl' : List Slot) : Prop := ∀ i, i < news.length → sl'[n + i]? = news[i]? ∧ φ'[n + i]? = ψ[i]?
structure Made (P : Program) (w : World) (w' : World) (news : List Slot) (ψ : Hdrs) (Fn : List (List Nat)) : Prop where
  below : Below w.heap.size w w'
  plen : ψ.length = news.length
  Flen : Fn.length = news.length
  nd : Fn.flatten.Nodup
  ge : ∀ g ∈ Fn.flatten, w.heap.size ≤ g
  hd : ∀ (i b c : Nat), ψ[i]? = some (some b, c) → w.heap.size ≤ b
def QPost (R : Nat → Prop) (P : Program) (n : Nat) (φ : Hdrs) (sl : List Slot) (w : World) (x : V) (news : List Slot) (v : Value) (w' : World) : Prop :=
  ∃ ψ Fn, Made P w w' news ψ Fn ∧ ∀ φ' sl', Ext R φ sl w φ' sl' w' → Placed n ψ news φ' sl' →
    (∀ (i : Nat) (y : Slot) (h : Option Nat × Nat) (F : List Nat), news[i]? = some y → ψ[i]? = some h → Fn[i]? = some F → SR P w' (good R φ' sl' w') φ' sl' y h F) ∧ VR w' (good R φ' sl' w') φ' sl' x v

section
variable {P : Program} {w0 : Base} {w w' : World} {φ : Hdrs} {σ : St} {a : Act} {sl : List Slot}
theorem Made.nothing (P : Program) (w : World) : Made P w w [] [] [] := ⟨Below.refl _ _, rfl, rfl, by simp, by simp, by simp⟩
theorem qpost_pure {n : Nat} {x : V} {v : Value} (h : VR w (good w0.R φ sl w) φ sl x v) : QPost w0.R P n φ sl w x [] v w :=
  ⟨[], [], Made.nothing P w, fun φ' sl' he _ => ⟨fun i y h F hy => by simp at hy, h.mono he.hk he.hs he.hp⟩⟩
theorem made_one {o : Obj} {y : Slot} {c : Nat} : Made P w (w.alloc o) [y] [(some w.heap.size, c)] [[w.heap.size]] :=
  ⟨below1 w o, rfl, rfl, by simp, by simp, fun i b c h => by
    match i with
    | 0 => simp at h; omega
    | i + 1 => simp at h⟩
/-- A new variable. -/
theorem qpost_var {n : Nat} {t : TypeId} {xs : List V} {vs : List Value} (h : VRs w (good w0.R φ sl w) φ sl xs vs) (x : V) (v : Value) (hx : ∀ φ' sl' (w' : World), sl'[n]? = some (.var t xs) → φ'[n]? = some (some w.heap.size, 0) → VR w' (good w0.R φ' sl' w') φ' sl' x v) :
    QPost w0.R P n φ sl w x [.var t xs] v (w.alloc (.cells vs.toArray t)) := by
  refine ⟨[(some w.heap.size, 0)], [[w.heap.size]], made_one, fun φ' sl' he hpl => ⟨fun i y hd F hy hh hF => ?_, ?_⟩⟩
  · match i with
    | 0 =>
      simp at hy hh hF
      subst hy hh hF
      refine ⟨w.heap.size, vs.toArray, rfl, rfl, heap_alloc_new w _, by simp [h.1], fun i x v hx hv => ?_⟩
      have := h.2 i x v hx (by simpa using hv)
      exact ⟨this.1.mono he.hk he.hs he.hp, this.2⟩
    | i + 1 => simp at hy
  · obtain ⟨h1, h2⟩ := hpl 0 (by simp)
    exact hx φ' sl' _ (by simpa using h1) (by simpa using h2)

/-! ### Results of calls -/
theorem owns_cons {d : D} {ds : List D} {v : Value} {vs : List Value} {F : List Nat} (h : Owns P w (d :: ds) (v :: vs) F) : ∃ F1 F2, F = F1 ++ F2 ∧ Owns P w [d] [v] F1 ∧ Owns P w ds vs F2 := by
  cases h with
  | int k x h => exact ⟨[], F, rfl, .int k x .nil, h⟩
  | bool b h => exact ⟨[], F, rfl, .bool b .nil, h⟩
  | none t h => exact ⟨[], F, rfl, .none t .nil, h⟩
  | sl t es g c cur Fs hg hcap hc63 hsz hFl hl he h =>
    exact ⟨_, _, rfl, by simpa using Owns.sl t es g c cur Fs hg hcap hc63 hsz hFl hl he .nil, h⟩
/-- The new slots' part of a state that comes out of a call. -/
structure Got (P : Program) (w : World) (n : Nat) (xs : List V) (news : List Slot) (vs : List Value) (F : List Nat) (ψ : Hdrs) (Fn : List (List Nat)) : Prop where
  plen : ψ.length = news.length
  Flen : Fn.length = news.length
  flat : Fn.flatten = F
  hd : ∀ (i b c : Nat), ψ[i]? = some (some b, c) → b ∈ F
  sr : ∀ G φ' sl' (i : Nat) (y : Slot) (h : Option Nat × Nat) (F : List Nat), news[i]? = some y → ψ[i]? = some h → Fn[i]? = some F → SR P w G φ' sl' y h F
  vr : ∀ G φ' sl', Placed n ψ news φ' sl' → vs.length = xs.length ∧ ∀ (i : Nat) (x : V) (v : Value), xs[i]? = some x → vs[i]? = some v → VR w G φ' sl' x v
theorem Got.nil {n : Nat} : Got P w n [] [] [] [] [] [] := ⟨rfl, rfl, rfl, by simp, fun _ _ _ i y h F hy => by simp at hy, fun _ _ _ _ => ⟨rfl, fun i x v hx => by simp at hx⟩⟩
theorem Got.cons {n : Nat} {x : V} {xs : List V} {n1 n2 : List Slot} {v : Value} {vs : List Value} {F1 F2 : List Nat} {ψ1 ψ2 : Hdrs} {Fn1 Fn2 : List (List Nat)} (h1 : Got P w n [x] n1 [v] F1 ψ1 Fn1) (h2 : Got P w (n + n1.length) xs n2 vs F2 ψ2 Fn2) :
    Got P w n (x :: xs) (n1 ++ n2) (v :: vs) (F1 ++ F2) (ψ1 ++ ψ2) (Fn1 ++ Fn2) where
  plen := by simp [h1.plen, h2.plen]
  Flen := by simp [h1.Flen, h2.Flen]
  flat := by simp [h1.flat, h2.flat]
  hd := fun i b c h => by
    by_cases hi : i < ψ1.length
    · rw [List.getElem?_append_left hi] at h
      exact List.mem_append_left _ (h1.hd i b c h)
    · rw [List.getElem?_append_right (by omega)] at h
      exact List.mem_append_right _ (h2.hd _ b c h)
  sr := fun G φ' sl' i y h F hy hh hF => by
    by_cases hi : i < n1.length
    · rw [List.getElem?_append_left hi] at hy
      rw [List.getElem?_append_left (by rw [h1.plen]; exact hi)] at hh
      rw [List.getElem?_append_left (by rw [h1.Flen]; exact hi)] at hF
      exact h1.sr G φ' sl' i y h F hy hh hF
    · rw [List.getElem?_append_right (by omega)] at hy
      rw [List.getElem?_append_right (by rw [h1.plen]; omega), h1.plen] at hh
      rw [List.getElem?_append_right (by rw [h1.Flen]; omega), h1.Flen] at hF
      exact h2.sr G φ' sl' _ y h F hy hh hF
  vr := fun G φ' sl' hp => by
    have e1 := h1.plen
    obtain ⟨k1, k2⟩ := h1.vr G φ' sl' (fun i hi => by
      obtain ⟨q1, q2⟩ := hp i (by simp; omega)
      rw [List.getElem?_append_left hi] at q1
      rw [List.getElem?_append_left (by omega)] at q2
      exact ⟨q1, q2⟩)
    obtain ⟨k3, k4⟩ := h2.vr G φ' sl' (fun i hi => by
      obtain ⟨q1, q2⟩ := hp (n1.length + i) (by simp; omega)
      rw [List.getElem?_append_right (by omega), Nat.add_sub_cancel_left, ← Nat.add_assoc] at q1
      rw [List.getElem?_append_right (by omega), e1, Nat.add_sub_cancel_left, ← Nat.add_assoc] at q2
      exact ⟨q1, q2⟩)
    refine ⟨by simp [k3], fun i y u hy hu => ?_⟩
    match i with
    | 0 => exact k2 0 y u (by simpa using hy) (by simpa using hu)
    | i + 1 => exact k4 i y u (by simpa using hy) (by simpa using hu)
theorem got_d {n : Nat} {x : D} {v : Value} {F : List Nat} (h : Owns P w [x] [v] F) : ∃ ψ Fn, Got P w n [(instD n x).1] (instD n x).2 [v] F ψ Fn := by
  have one : ∀ {x : D}, Rd w (fun _ => False) x v → F = [] → Got P w n [.d x] [] [v] F [] [] := by
    intro x hr hF
    subst hF
    refine ⟨rfl, rfl, rfl, by simp, fun _ _ _ i y h F hy => by simp at hy, fun G _ _ _ => ⟨rfl, fun i y u hy hu => ?_⟩⟩
    match i with
    | 0 => simp at hy hu; subst hy hu; exact .d (hr.mono fun _ h => h.elim)
    | i + 1 => simp at hy
  cases x with
  | int k n => cases h with | int _ _ h => cases h; exact ⟨_, _, one (.int _ _) rfl⟩
  | bool b => cases h with | bool _ h => cases h; exact ⟨_, _, one (.bool _) rfl⟩
  | sl t es =>
    obtain ⟨A, c, rfl, hr⟩ := row_owns h
    refine ⟨[(A, c)], [F], rfl, rfl, by simp, fun i b c' hi => ?_, fun G φ' sl' i y hd F' hy hh hF => ?_, fun G φ' sl' hp => ⟨rfl, fun i y u hy hu => ?_⟩⟩
    · match i with
      | 0 =>
        simp at hi
        obtain ⟨rfl, _⟩ := hi
        obtain ⟨_, _, ⟨k, _⟩ | ⟨g, _, _, k, _, _, _, _, _, rfl⟩⟩ := hr
        · cases k
        · cases k; simp
      | i + 1 => simp at hi
    · match i with
      | 0 => simp [instD] at hy hh hF; subst hy hh hF; exact hr
      | i + 1 => simp [instD] at hy
    · match i with
      | 0 =>
        simp [instD] at hy hu
        subst hy hu
        obtain ⟨q1, q2⟩ := hp 0 (by simp [instD])
        exact .ref (by simpa [instD] using q1) (by simpa using q2)
      | i + 1 => simp at hy
theorem got_ds : ∀ {n : Nat} {xs : List D} {vs : List Value} {F : List Nat}, Owns P w xs vs F → ∃ ψ Fn, Got P w n (instDs n xs).1 (instDs n xs).2 vs F ψ Fn
  | n, [], vs, F, h => by cases h; exact ⟨[], [], Got.nil⟩
  | n, x :: xs, vs, F, h => by
    cases vs with
    | nil => have := h.len; simp at this
    | cons v vs =>
      obtain ⟨F1, F2, rfl, h1, h2⟩ := owns_cons h
      obtain ⟨ψ1, Fn1, k1⟩ := got_d (n := n) h1
      obtain ⟨ψ2, Fn2, k2⟩ := got_ds (n := n + (instD n x).2.length) h2
      exact ⟨_, _, k1.cons k2⟩
theorem got_1 {n : Nat} {x : X} {v : Value} {F : List Nat} (h : XOwn P w x v F) : ∃ ψ Fn, Got P w n [(inst1 n x).1] (inst1 n x).2 [v] F ψ Fn := by
  cases h with
  | d h => exact got_d h
  | agg h =>
    rename_i ds vs
    obtain ⟨ψ, Fn, k⟩ := got_ds (n := n) h
    refine ⟨ψ, Fn, k.plen, k.Flen, k.flat, k.hd, k.sr, fun G φ' sl' hp => ⟨rfl, fun i y u hy hu => ?_⟩⟩
    obtain ⟨q1, q2⟩ := k.vr G φ' sl' hp
    match i with
    | 0 =>
      simp [inst1] at hy hu
      subst hy hu
      exact .agg q1 h.one q2
    | i + 1 => simp at hy
theorem got_1s : ∀ {n : Nat} {xs : List X} {vs : List Value} {Fs : List (List Nat)}, vs.length = xs.length → Fs.length = xs.length →
    (∀ (i : Nat) (x : X) (v : Value) (F : List Nat), xs[i]? = some x → vs[i]? = some v → Fs[i]? = some F → XOwn P w x v F) → ∃ ψ Fn, Got P w n (inst1s n xs).1 (inst1s n xs).2 vs Fs.flatten ψ Fn
  | n, [], [], [], _, _, _ => ⟨[], [], Got.nil⟩
  | n, x :: xs, v :: vs, F :: Fs, h1, h2, h => by
    obtain ⟨ψ1, Fn1, k1⟩ := got_1 (n := n) (h 0 x v F rfl rfl rfl)
    obtain ⟨ψ2, Fn2, k2⟩ := got_1s (n := n + (inst1 n x).2.length) (xs := xs) (vs := vs) (Fs := Fs) (by simpa using h1) (by simpa using h2) (fun i x v F hx hv hF => h (i + 1) x v F (by simpa using hx) (by simpa using hv) (by simpa using hF))
    exact ⟨_, _, k1.cons k2⟩
  | n, [], _ :: _, _, h1, _, _ => by simp at h1
  | n, [], [], _ :: _, _, h2, _ => by simp at h2
  | n, _ :: _, [], _, h1, _, _ => by simp at h1
  | n, _ :: _, _ :: _, [], _, h2, _ => by simp at h2
theorem got_res {n : Nat} {x : X} {v : Value} {F : List Nat} (h : XRes P w x v F) : ∃ ψ Fn, Got P w n [(inst n x).1] (inst n x).2 [v] F ψ Fn := by
  cases h with
  | one h =>
    have : inst n x = inst1 n x := by cases h <;> rfl
    rw [this]
    exact got_1 h
  | tup hl hF h =>
    rename_i xs vs Fs
    obtain ⟨ψ, Fn, k⟩ := got_1s (n := n) hl hF h
    refine ⟨ψ, Fn, k.plen, k.Flen, k.flat, k.hd, k.sr, fun G φ' sl' hp => ⟨rfl, fun i y u hy hu => ?_⟩⟩
    obtain ⟨q1, q2⟩ := k.vr G φ' sl' hp
    match i with
    | 0 =>
      simp [inst] at hy hu
      subst hy hu
      exact .tup q1 q2
    | i + 1 => simp at hy
theorem qpost_res {n : Nat} {r : X} {v : Value} {F : List Nat} (h : XRes P w' r v F) (hn : F.Nodup) (hg : ∀ g ∈ F, w.heap.size ≤ g) (hb : Below w.heap.size w w') : QPost w0.R P n φ sl w (inst n r).1 (inst n r).2 v w' := by
  obtain ⟨ψ, Fn, k⟩ := got_res (n := n) h
  refine ⟨ψ, Fn, ⟨hb, k.plen, k.Flen, by rw [k.flat]; exact hn, by rw [k.flat]; exact hg, fun i b c hi => hg b (k.hd i b c hi)⟩, fun φ' sl' he hp => ⟨k.sr _ φ' sl', ?_⟩⟩
  exact (k.vr _ φ' sl' hp).2 0 _ v rfl rfl

/-! ### Arguments of calls -/
/-- What a value presents can be read where its slot's blocks and the good ones can. -/
theorem presD_rd {G : Nat → Prop} {Fs : List (List Nat)} {x : V} {y : D} {v : Value} (h : presD sl x = some y) (hm : MemR P w0 φ sl w Fs) (hx : VR w (good w0.R φ sl w) φ sl x v) (hG : ∀ b, good w0.R φ sl w b → G b)
    (hF : ∀ s, x = .ref s → ∀ F, Fs[s]? = some F → ∀ b ∈ F, G b) : Rd w G y v := by
  have hle : ∀ {y v}, Rd w (good w0.R φ sl w) y v → Rd w G y v := fun hr => hr.mono fun b hb => ⟨hG b hb, fun _ => rfl⟩
  unfold presD at h
  split at h
  · cases h; cases hx with | d h => exact hle h
  · cases h; cases hx; exact .nil _ _ _
  · split at h
    · rename_i s _ t ow es hs
      cases h
      cases hx with
      | gone h1 => rw [hs] at h1; cases h1
      | ref h1 h2 =>
        rw [hs] at h1
        cases h1
        obtain ⟨hd, F, k1, k2, k3⟩ := hm.at_ hs
        rw [h2] at k1
        cases k1
        have hF := hF s rfl F k2
        cases ow with
        | true =>
          have ho := owns_row k3
          obtain ⟨v, e, hr⟩ := ho.rd (G := G) hF 0 _ rfl
          simp at e
          rw [e]
          exact hr
        | false =>
          obtain ⟨q1, q2, ⟨rfl, rfl, _⟩ | ⟨g, cur, Fs', rfl, q3, q4, q5, q6, q7, rfl⟩⟩ := k3
          · obtain rfl : es = [] := List.eq_nil_of_length_eq_zero (by omega)
            exact .nil _ _ _
          · have key : ∀ i e j d, es[i]? = some e → e[j]? = some d → ∃ v, cur[i * P.cellsOf t + j]? = some v ∧ Rd w G d v := by
              intro i e j d h1 h2
              have hil : i < es.length := (List.getElem?_eq_some_iff.1 h1).1
              have hf : Fs'[i]? = some (Fs'[i]'(by omega)) := List.getElem?_eq_getElem (by omega)
              obtain ⟨_, _, hr⟩ := q7 i e _ h1 hf
              obtain ⟨v, hv, hr⟩ := hr j d h2
              refine ⟨v, ?_, hle hr⟩
              rw [List.getElem?_take] at hv
              split at hv
              · rw [List.getElem?_drop, Array.getElem?_toList] at hv
                exact hv
              · cases hv
            refine .sl t es g 0 _ (P.cellsOf t) (fun i j => (cur[i * P.cellsOf t + j]?).getD default) (by omega) q2 (hF g (by simp)) q6 ?_ ?_
            · intro i e j d h1 h2
              obtain ⟨v, hv, _⟩ := key i e j d h1 h2
              rw [cell_of_row w g _ cur t (0, 0) q3, Nat.zero_add, hv]
              rfl
            · intro i e j d h1 h2
              obtain ⟨v, hv, hr⟩ := key i e j d h1 h2
              rw [hv]
              exact hr
    · cases h
  · cases h
theorem presD_sound {Fs : List (List Nat)} {x : V} {y : D} {v : Value} (h : presD sl x = some y) (hm : MemR P w0 φ sl w Fs) (hx : VR w (good w0.R φ sl w) φ sl x v) : Rd w (· < w.heap.size) y v :=
  presD_rd h hm hx (fun _ hb => hb.1) fun s _ F hF b hb => hm.lt b (mem_flat hF hb)
theorem presDs_sound {Fs : List (List Nat)} (hm : MemR P w0 φ sl w Fs) : ∀ {xs : List V} {ys : List D} {vs : List Value}, presDs sl xs = some ys → vs.length = xs.length → (∀ (i : Nat) (x : V) (v : Value), xs[i]? = some x → vs[i]? = some v → VR w (good w0.R φ sl w) φ sl x v) →
    vs.length = ys.length ∧ ∀ (i : Nat) (y : D), ys[i]? = some y → ∃ v, vs[i]? = some v ∧ Rd w (· < w.heap.size) y v
  | [], ys, vs, h, hl, _ => by
    simp [presDs] at h
    subst h
    exact ⟨hl, fun i y hy => by simp at hy⟩
  | x :: xs, ys, [], h, hl, _ => by simp at hl
  | x :: xs, ys, v :: vs, h, hl, hv => by
    unfold presDs at h
    split at h
    · rename_i d ds h1 h2
      cases h
      obtain ⟨k1, k2⟩ := presDs_sound hm h2 (by simpa using hl) (fun i x v hx hv' => hv (i + 1) x v (by simpa using hx) (by simpa using hv'))
      refine ⟨by simp [k1], fun i y hy => ?_⟩
      match i with
      | 0 => simp at hy; subst hy; exact ⟨v, rfl, presD_sound h1 hm (hv 0 x v rfl rfl)⟩
      | i + 1 => simp at hy; simpa using k2 i y hy
    · cases h
theorem pres_sound {Fs : List (List Nat)} {x : V} {y : X} {v : Value} (h : pres sl x = some y) (hm : MemR P w0 φ sl w Fs) (hx : VR w (good w0.R φ sl w) φ sl x v) : XRd w (· < w.heap.size) y v := by
  unfold pres at h
  split at h
  · rename_i xs
    rw [Option.map_eq_some_iff] at h
    obtain ⟨ds, h1, rfl⟩ := h
    cases hx with
    | agg hl hone hv =>
      obtain ⟨k1, k2⟩ := presDs_sound hm h1 hl hv
      exact .agg ⟨rfl, k1, k2⟩
  · rw [Option.map_eq_some_iff] at h
    obtain ⟨d, h1, rfl⟩ := h
    exact .d (presD_sound h1 hm hx)
theorem presAll_sound {Fs : List (List Nat)} (hm : MemR P w0 φ sl w Fs) : ∀ {xs : List V} {ys : List X} {vs : List Value}, presAll sl xs = some ys → vs.length = xs.length → (∀ (i : Nat) (x : V) (v : Value), xs[i]? = some x → vs[i]? = some v → VR w (good w0.R φ sl w) φ sl x v) →
    vs.length = ys.length ∧ ∀ (i : Nat) (y : X) (v : Value), ys[i]? = some y → vs[i]? = some v → XRd w (· < w.heap.size) y v
  | [], ys, vs, h, hl, _ => by
    simp [presAll] at h
    subst h
    exact ⟨hl, fun i y v hy => by simp at hy⟩
  | x :: xs, ys, [], h, hl, _ => by simp at hl
  | x :: xs, ys, v :: vs, h, hl, hv => by
    unfold presAll at h
    split at h
    · rename_i d ds h1 h2
      cases h
      obtain ⟨k1, k2⟩ := presAll_sound hm h2 (by simpa using hl) (fun i x v hx hv' => hv (i + 1) x v (by simpa using hx) (by simpa using hv'))
      refine ⟨by simp [k1], fun i y u hy hu => ?_⟩
      match i with
      | 0 => simp at hy hu; subst hy hu; exact pres_sound h1 hm (hv 0 x v rfl rfl)
      | i + 1 => simp at hy hu; exact k2 i y u hy hu
    · cases h
end
end Go.Proofs.Ytdliejnmpdodhaa
