/-
  When a memory and an abstract state belong together, and what keeps them together. Plain lemmas, about no function of the program.
  Conditions: those typed in each theorem.
-/
import Derived.Test.YtdliejnmpdodhaaVa
namespace Go.Proofs.Ytdliejnmpdodhaa
open Go.RowKit Go.ChangeShapes Go.WideShapes
set_option linter.unusedVariables false

def Slot.live : Slot → Prop
  | .arr .. | .var .. => True
  | _ => False
/-- A slot and the same slot later. -/
def Later : Slot → Slot → Prop
  | .unborn, _ => True
  | .dead, .dead => True
  | .arr .., .dead => True
  | .var .., .dead => True
  | .arr _ _ es, .arr _ _ es' => es'.length = es.length
  | .var .., .var .. => True
  | _, _ => False
theorem Later.refl (x : Slot) : Later x x := by cases x <;> simp [Later]

abbrev Hdrs := List (Option Nat × Nat)
/-- Block b is the head of a slot that lives. -/
def top (φ : Hdrs) (sl : List Slot) (b : Nat) : Prop := ∃ (s : Nat) (x : Slot) (c : Nat), sl[s]? = some x ∧ x.live ∧ φ[s]? = some (some b, c)
/-- Block b can be read as data that stay (R: what a frame may read as data at all). -/
def good (R : Nat → Prop) (φ : Hdrs) (sl : List Slot) (w : World) (b : Nat) : Prop := b < w.heap.size ∧ ¬ top φ sl b ∧ R b

section
variable (w : World) (G : Nat → Prop) (φ : Hdrs) (sl : List Slot)
inductive VR : V → Value → Prop
  | any (v : Value) : VR .any v
  | nil (t : TypeId) : VR (.nil t) (.slice none 0 0)
  | d {x : D} {v : Value} (h : Rd w G x v) : VR (.d x) v
  | ref {s : Nat} {t : TypeId} {ow : Bool} {es : List (List D)} {A : Option Nat} {c : Nat} (hs : sl[s]? = some (.arr t ow es)) (hp : φ[s]? = some (A, c)) : VR (.ref s) (.slice (hdr A) es.length c)
  | gone {s : Nat} {v : Value} (hs : sl[s]? = some .dead) (hv : v.oneCell' = true) : VR (.ref s) v
  | lit {s n : Nat} {t : TypeId} {xs : List V} {g c : Nat} (hs : sl[s]? = some (.var t xs)) (hp : φ[s]? = some (some g, c)) : VR (.lit s n) (.slice (some ⟨g, 0, none⟩) n n)
  | litgone {s n : Nat} {v : Value} (hs : sl[s]? = some .dead) (hv : v.oneCell' = true) : VR (.lit s n) v
  | ptr {s o : Nat} {x : Slot} {g c : Nat} (hs : sl[s]? = some x) (hx : x.live) (hp : φ[s]? = some (some g, c)) : VR (.ptr s o) (.pointer (some ⟨g, o, none⟩))
  | lost {s o : Nat} {v : Value} (hs : sl[s]? = some .dead) (hv : v.oneCell' = true) : VR (.ptr s o) v
  | eptr {s n i j : Nat} {t : TypeId} {ow : Bool} {es : List (List D)} {g c : Nat} (hs : sl[s]? = some (.arr t ow es)) (hp : φ[s]? = some (some g, c)) : VR (.eptr s n i j) (.pointer (some ⟨g, i * n + j, none⟩))
  | elost {s n i j : Nat} {v : Value} (hs : sl[s]? = some .dead) (hv : v.oneCell' = true) : VR (.eptr s n i j) v
  | cptr {ds : List D} {b o : Nat} (u : Nat → Value) (hG : G b) (hc : ∀ (j : Nat) (d : D), ds[j]? = some d → w.cell? ⟨b, o + j, none⟩ = some (u j)) (hr : ∀ (j : Nat) (d : D), ds[j]? = some d → Rd w G d (u j)) : VR (.cptr ds) (.pointer (some ⟨b, o, none⟩))
  | agg {xs : List V} {vs : List Value} (hl : vs.length = xs.length) (h1 : ∀ v ∈ vs, v.oneCell' = true) (h : ∀ (i : Nat) (x : V) (v : Value), xs[i]? = some x → vs[i]? = some v → VR x v) : VR (.agg xs) (.agg vs.toArray)
  | tup {xs : List V} {vs : List Value} (hl : vs.length = xs.length) (h : ∀ (i : Nat) (x : V) (v : Value), xs[i]? = some x → vs[i]? = some v → VR x v) : VR (.tup xs) (.tuple vs.toArray)
  | fn {f : FuncId} {xs : List V} {vs : List Value} (hl : vs.length = xs.length) (h : ∀ (i : Nat) (x : V) (v : Value), xs[i]? = some x → vs[i]? = some v → VR x v) : VR (.fn f xs) (.func (.func f) #[] vs.toArray)
end
theorem VR.mono {w w' : World} {G G' : Nat → Prop} {φ φ' : Hdrs} {sl sl' : List Slot} {x : V} {v : Value} (h : VR w G φ sl x v) (hk : ∀ b, G b → G' b ∧ ∀ o, w'.cell? ⟨b, o, none⟩ = w.cell? ⟨b, o, none⟩)
    (hs : ∀ (s : Nat) (x : Slot), sl[s]? = some x → ∃ x', sl'[s]? = some x' ∧ Later x x') (hp : ∀ (s : Nat) (h : Option Nat × Nat), φ[s]? = some h → sl[s]? ≠ some .unborn → φ'[s]? = some h) : VR w' G' φ' sl' x v := by
  have live : ∀ (s : Nat) (x : Slot) (h : Option Nat × Nat), sl[s]? = some x → x.live → φ[s]? = some h → (sl'[s]? = some .dead) ∨ (∃ x', sl'[s]? = some x' ∧ Later x x' ∧ x'.live ∧ φ'[s]? = some h) := by
    intro s x h h1 h2 h3
    obtain ⟨x', hx, hl⟩ := hs _ _ h1
    have h3' := hp _ _ h3 (by rw [h1]; intro e; simp only [Option.some.injEq] at e; subst e; exact h2)
    cases x' with
    | dead => exact .inl hx
    | unborn => cases x <;> simp [Later, Slot.live] at hl h2
    | var => exact .inr ⟨_, hx, hl, trivial, h3'⟩
    | arr => exact .inr ⟨_, hx, hl, trivial, h3'⟩
  have dead : ∀ s : Nat, sl[s]? = some .dead → sl'[s]? = some .dead := by
    intro s h1
    obtain ⟨x', hx, hl⟩ := hs _ _ h1
    cases x' with
    | dead => exact hx
    | _ => simp [Later] at hl
  induction h with
  | any v => exact .any v
  | nil t => exact .nil t
  | d h => exact .d (h.mono hk)
  | @ref s t ow es A c h1 h2 =>
    rcases live s _ _ h1 trivial h2 with h | ⟨x', h3, h4, h5, h6⟩
    · exact .gone h rfl
    · cases x' with
      | arr t' ow' es' =>
        have hl' : es'.length = es.length := h4
        rw [← hl']
        exact .ref h3 h6
      | _ => first | exact h5.elim | simp [Later] at h4
  | gone h1 hv => exact .gone (dead _ h1) hv
  | @lit s n t xs g c h1 h2 =>
    rcases live s _ _ h1 trivial h2 with h | ⟨x', h3, h4, h5, h6⟩
    · exact .litgone h rfl
    · cases x' with
      | var t' xs' => exact .lit h3 h6
      | _ => first | exact h5.elim | simp [Later] at h4
  | litgone h1 hv => exact .litgone (dead _ h1) hv
  | @ptr s o x g c h1 h2 h3 =>
    rcases live s _ _ h1 h2 h3 with h | ⟨x', h4, h5, h6, h7⟩
    · exact .lost h rfl
    · exact .ptr h4 h6 h7
  | lost h1 hv => exact .lost (dead _ h1) hv
  | @eptr s n i j t ow es g c h1 h2 =>
    rcases live s _ _ h1 trivial h2 with h | ⟨x', h3, h4, h5, h6⟩
    · exact .elost h rfl
    · cases x' with
      | arr t' ow' es' => exact .eptr h3 h6
      | _ => first | exact h5.elim | simp [Later] at h4
  | elost h1 hv => exact .elost (dead _ h1) hv
  | cptr u hG hc hr => exact .cptr u (hk _ hG).1 (fun j d hd => ((hk _ hG).2 _).trans (hc j d hd)) (fun j d hd => (hr j d hd).mono hk)
  | agg hl h1 h ih => exact .agg hl h1 ih
  | tup hl h ih => exact .tup hl ih
  | fn hl h ih => exact .fn hl ih
/-- A value of one cell. -/
def V.cell : V → Bool
  | .any | .agg _ | .tup _ => false
  | _ => true
theorem VR.one {w : World} {G : Nat → Prop} {φ : Hdrs} {sl : List Slot} {x : V} {v : Value} (h : VR w G φ sl x v) (hx : x.cell = true) : v.oneCell' = true := by
  cases h with
  | d h => exact h.one
  | any => simp [V.cell] at hx
  | agg => simp [V.cell] at hx
  | tup => simp [V.cell] at hx
  | gone h1 hv => exact hv
  | litgone h1 hv => exact hv
  | lost h1 hv => exact hv
  | elost h1 hv => exact hv
  | _ => rfl

/-- A slot in memory: its header, the blocks that it owns. -/
def SR (P : Program) (w : World) (G : Nat → Prop) (φ : Hdrs) (sl : List Slot) : Slot → Option Nat × Nat → List Nat → Prop
  | .dead, _, F => F = []
  | .unborn, _, F => F = []
  | .arr t true es, h, F => RowOf P w (Owns P w) t es h.1 h.2 F
  | .arr t false es, h, F => RowOf P w (Rds w G) t es h.1 h.2 F
  | .var t xs, h, F => ∃ (g : Nat) (cur : Array Value), h.1 = some g ∧ F = [g] ∧ w.heap[g]? = some (.cells cur t (0, 0)) ∧ cur.size = xs.length ∧ ∀ (i : Nat) (x : V) (v : Value), xs[i]? = some x → cur[i]? = some v → VR w G φ sl x v ∧ v.oneCell' = true
theorem SR.mono {P : Program} {w w' : World} {G G' : Nat → Prop} {φ φ' : Hdrs} {sl sl' : List Slot} {x : Slot} {h : Option Nat × Nat} {F : List Nat} (hx : SR P w G φ sl x h F) (hF : ∀ g ∈ F, w'.heap[g]? = w.heap[g]?)
    (hk : ∀ b, G b → G' b ∧ ∀ o, w'.cell? ⟨b, o, none⟩ = w.cell? ⟨b, o, none⟩) (hs : ∀ (s : Nat) (x : Slot), sl[s]? = some x → ∃ x', sl'[s]? = some x' ∧ Later x x') (hp : ∀ (s : Nat) (h : Option Nat × Nat), φ[s]? = some h → sl[s]? ≠ some .unborn → φ'[s]? = some h) :
    SR P w' G' φ' sl' x h F := by
  have hA : ∀ {R : List D → List Value → List Nat → Prop} {t : TypeId} {es : List (List D)}, RowOf P w R t es h.1 h.2 F → ∀ g, h.1 = some g → g ∈ F := by
    intro R t es hr g hg
    obtain ⟨_, _, ⟨h1, _⟩ | ⟨g', cur, Fs, h1, _, _, _, _, _, rfl⟩⟩ := hr
    · rw [h1] at hg; cases hg
    · rw [h1] at hg; obtain rfl := Option.some.inj hg; simp
  cases x with
  | dead => exact hx
  | unborn => exact hx
  | arr t ow es =>
    cases ow with
    | true => exact RowOf.stay hx (fun g hg => hF g (hA hx g hg)) (fun e cs f _ hf ho => ho.stay fun q hq => hF q (hf q hq))
    | false => exact RowOf.stay hx (fun g hg => hF g (hA hx g hg)) (fun e cs f _ hf ho => ho.mono hk)
  | var t xs =>
    obtain ⟨g, cur, h1, h2, h3, h4, h5⟩ := hx
    exact ⟨g, cur, h1, h2, (hF g (by simp [h2])).trans h3, h4, fun i x v hx hv => ⟨(h5 i x v hx hv).1.mono hk hs hp, (h5 i x v hx hv).2⟩⟩

/-- Only the heads T, and new blocks, may have been written. -/
structure Kept (T : Nat → Prop) (w w' : World) : Prop where
  os : w'.os = w.os
  tape : w'.tape = w.tape
  output : w'.output = w.output
  size : w.heap.size ≤ w'.heap.size
  block : ∀ k, k < w.heap.size → ¬ T k → w'.heap[k]? = w.heap[k]?
theorem Kept.refl (T : Nat → Prop) (w : World) : Kept T w w := ⟨rfl, rfl, rfl, Nat.le_refl _, fun _ _ _ => rfl⟩
theorem Kept.below {T : Nat → Prop} {w w' : World} (h : Kept T w w') (hT : ∀ k, ¬ T k) : Below w.heap.size w w' := ⟨h.os, h.tape, h.output, h.size, fun k hk => h.block k hk (hT k)⟩
/-- Where a frame began: the world; the heads that it may write; the blocks that its arguments own; the headers that stay; what may be read as data; whether no slot's rows are read as data. -/
structure Base where
  w : World
  T : Nat → Prop
  B : Nat → Prop
  H : Hdrs
  R : Nat → Prop
  st : Bool
  rn : st = false → ∀ b, (B b ∨ w.heap.size ≤ b) → R b
structure MemR (P : Program) (w0 : Base) (φ : Hdrs) (sl : List Slot) (w : World) (Fs : List (List Nat)) : Prop where
  only : Kept w0.T w0.w w
  tops : ∀ b, top φ sl b → w0.T b ∨ w0.w.heap.size ≤ b
  flen : φ.length = sl.length
  Flen : Fs.length = sl.length
  nd : Fs.flatten.Nodup
  ge : ∀ g ∈ Fs.flatten, w0.B g ∨ w0.w.heap.size ≤ g
  pin : ∀ (i : Nat) (h : Option Nat × Nat), w0.H[i]? = some h → φ[i]? = some h ∧ sl[i]? ≠ some .unborn
  sr : ∀ (s : Nat) (x : Slot) (h : Option Nat × Nat) (F : List Nat), sl[s]? = some x → φ[s]? = some h → Fs[s]? = some F → SR P w (good w0.R φ sl w) φ sl x h F

section
variable {P : Program} {w0 : Base} {w w' : World} {φ φ' : Hdrs} {sl sl' : List Slot} {Fs Fs' : List (List Nat)}
theorem SR.lt {G : Nat → Prop} {x : Slot} {h : Option Nat × Nat} {F : List Nat} (hx : SR P w G φ sl x h F) : ∀ g ∈ F, g < w.heap.size := by
  cases x with
  | dead => intro g hg; rw [show F = [] from hx] at hg; cases hg
  | unborn => intro g hg; rw [show F = [] from hx] at hg; cases hg
  | arr t ow es =>
    cases ow with
    | true => exact RowOf.lt hx fun e cs f ho => ho.lt
    | false => exact RowOf.lt hx fun e cs f ho g hg => by rw [ho.1] at hg; cases hg
  | var t xs =>
    obtain ⟨g, cur, h1, h2, h3, _⟩ := hx
    intro q hq
    rw [h2, List.mem_singleton] at hq
    subst hq
    exact (Array.getElem?_eq_some_iff.1 h3).1
theorem SR.head {G : Nat → Prop} {x : Slot} {g c : Nat} {F : List Nat} (hx : SR P w G φ sl x (some g, c) F) (hl : x.live) : g ∈ F := by
  cases x with
  | dead => exact hl.elim
  | unborn => exact hl.elim
  | arr t ow es =>
    cases ow <;>
    · obtain ⟨_, _, ⟨h1, _⟩ | ⟨g', cur, Fs, h1, _, _, _, _, _, rfl⟩⟩ := hx
      · cases h1
      · obtain rfl := Option.some.inj h1; simp
  | var t xs =>
    obtain ⟨g', cur, h1, h2, h3, _⟩ := hx
    obtain rfl := Option.some.inj h1
    simp [h2]
theorem MemR.at_ (h : MemR P w0 φ sl w Fs) {s : Nat} {x : Slot} (hs : sl[s]? = some x) : ∃ hd F, φ[s]? = some hd ∧ Fs[s]? = some F ∧ SR P w (good w0.R φ sl w) φ sl x hd F := by
  have hl := (List.getElem?_eq_some_iff.1 hs).1
  have h1 : φ[s]? = some (φ[s]'(by rw [h.flen]; exact hl)) := List.getElem?_eq_getElem _
  have h2 : Fs[s]? = some (Fs[s]'(by rw [h.Flen]; exact hl)) := List.getElem?_eq_getElem _
  exact ⟨_, _, h1, h2, h.sr s x _ _ hs h1 h2⟩
theorem MemR.lt (h : MemR P w0 φ sl w Fs) : ∀ g ∈ Fs.flatten, g < w.heap.size := by
  intro g hg
  obtain ⟨F, hF, hg⟩ := List.mem_flatten.1 hg
  obtain ⟨s, hs, rfl⟩ := List.mem_iff_getElem.1 hF
  have hl := h.Flen
  have hx : sl[s]? = some (sl[s]'(by omega)) := List.getElem?_eq_getElem _
  obtain ⟨hd, F, h1, h2, h3⟩ := h.at_ hx
  rw [List.getElem?_eq_getElem hs] at h2
  obtain rfl := Option.some.inj h2
  exact h3.lt g hg
theorem MemR.top_at (h : MemR P w0 φ sl w Fs) {b : Nat} (hb : top φ sl b) : ∃ (s : Nat) (F : List Nat), Fs[s]? = some F ∧ b ∈ F := by
  obtain ⟨s, x, c, h1, h2, h3⟩ := hb
  obtain ⟨hd, F, h4, h5, h6⟩ := h.at_ h1
  rw [h3] at h4
  obtain rfl := Option.some.inj h4
  exact ⟨s, F, h5, h6.head h2⟩
theorem MemR.top_mem (h : MemR P w0 φ sl w Fs) {b : Nat} (hb : top φ sl b) : b ∈ Fs.flatten := by
  obtain ⟨s, F, h1, h2⟩ := h.top_at hb
  exact mem_flat h1 h2
theorem good_mono {R : Nat → Prop} {S : List Nat} (hO : Only S w w') (hS : ∀ b ∈ S, top φ sl b ∨ w.heap.size ≤ b) (hT : ∀ b, top φ' sl' b → w.heap.size ≤ b ∨ top φ sl b) :
    ∀ b, good R φ sl w b → good R φ' sl' w' b ∧ ∀ o, w'.cell? ⟨b, o, none⟩ = w.cell? ⟨b, o, none⟩ := by
  intro b ⟨h1, h2, hR⟩
  have hb : b ∉ S := fun hb => by
    rcases hS b hb with h | h
    · exact h2 h
    · omega
  refine ⟨⟨Nat.lt_of_lt_of_le h1 hO.size, fun ht => ?_, hR⟩, fun o => ?_⟩
  · rcases hT b ht with h | h
    · omega
    · exact h2 h
  · have := hO.block b h1 hb
    simp only [World.cell?, this]
/-- Nested blocks can be read. -/
theorem MemR.rd (h : MemR P w0 φ sl w Fs) (hst : w0.st = false) {b : Nat} (hb : b ∈ Fs.flatten) : w0.R b := w0.rn hst b (h.ge b hb)
theorem MemR.only_step (h : MemR P w0 φ sl w Fs) {S : List Nat} (k : Only S w w') (hs : ∀ q ∈ S, w0.T q ∨ w0.w.heap.size ≤ q) : Kept w0.T w0.w w' :=
  ⟨k.os.trans h.only.os, k.tape.trans h.only.tape, k.output.trans h.only.output, Nat.le_trans h.only.size k.size, fun i hi hb => by
    have h1 := h.only.size
    rw [k.block i (by omega) (fun hm => by rcases hs i hm with h2 | h2 <;> first | exact hb h2 | omega)]
    exact h.only.block i hi hb⟩
theorem Later.unborn {x x' : Slot} (h : Later x x') (hx : x ≠ .unborn) : x' ≠ .unborn := by
  rintro rfl
  cases x <;> simp_all [Later]
theorem MemR.step (h : MemR P w0 φ sl w Fs) {S : List Nat} (hO : Only S w w') (hS : ∀ b ∈ S, top φ sl b ∨ w.heap.size ≤ b) (hl : φ'.length = sl'.length) (hF : Fs'.length = sl'.length) (nd : Fs'.flatten.Nodup) (ge : ∀ g ∈ Fs'.flatten, w0.B g ∨ w0.w.heap.size ≤ g)
    (hs : ∀ (s : Nat) (x : Slot), sl[s]? = some x → ∃ x', sl'[s]? = some x' ∧ Later x x') (hp : ∀ (s : Nat) (h : Option Nat × Nat), φ[s]? = some h → sl[s]? ≠ some .unborn → φ'[s]? = some h) (hT : ∀ b, top φ' sl' b → w.heap.size ≤ b ∨ top φ sl b)
    (hn : ∀ (s : Nat) (x : Slot) (h : Option Nat × Nat) (F : List Nat), sl'[s]? = some x → φ'[s]? = some h → Fs'[s]? = some F → (sl[s]? = some x ∧ φ[s]? = some h ∧ Fs[s]? = some F ∧ ∀ b ∈ F, b ∉ S) ∨ SR P w' (good w0.R φ' sl' w') φ' sl' x h F) :
    MemR P w0 φ' sl' w' Fs' where
  only := h.only_step hO (fun b hb => by
    rcases hS b hb with h' | h'
    · exact h.tops b h'
    · have := h.only.size; exact .inr (by omega))
  tops := fun b hb => by
    rcases hT b hb with h' | h'
    · have := h.only.size; exact .inr (by omega)
    · exact h.tops b h'
  flen := hl
  Flen := hF
  nd := nd
  ge := ge
  pin := fun i hd hi => by
    obtain ⟨h1, h2⟩ := h.pin i hd hi
    refine ⟨hp i hd h1 h2, fun hu => ?_⟩
    have hl' : i < sl.length := by rw [← h.flen]; exact (List.getElem?_eq_some_iff.1 h1).1
    obtain ⟨x', k1, k2⟩ := hs i _ (List.getElem?_eq_getElem hl')
    rw [k1] at hu
    cases hu
    exact k2.unborn (fun e => h2 (by rw [List.getElem?_eq_getElem hl', e])) rfl
  sr := fun s x hd F h1 h2 h3 => by
    rcases hn s x hd F h1 h2 h3 with ⟨h4, h5, h6, h7⟩ | h4
    · have hsr := h.sr s x hd F h4 h5 h6
      exact hsr.mono (fun g hg => hO.block g (hsr.lt g hg) (h7 g hg)) (good_mono hO hS hT) hs hp
    · exact h4
end

/-- A memory and an abstract state belong together; the frame began in the world w0. -/
structure Rel (P : Program) (w0 : Base) (φ : Hdrs) (σ : St) (a : Act) (w : World) : Prop where
  mem : ∃ Fs, MemR P w0 φ σ.slots w Fs
  defers : a.defers = []
  tlen : a.tmps.size = σ.tmps.length
  tmps : ∀ (i : Nat) (x : V) (v : Value), σ.tmps[i]? = some x → a.tmps[i]? = some v → VR w (good w0.R φ σ.slots w) φ σ.slots x v

end Go.Proofs.Ytdliejnmpdodhaa
