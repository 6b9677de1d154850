/-
  An abstract reading of memory: data, values, slots. How they lie in the memory of the model, and what keeps them so. Plain lemmas, about no function of the program.
  Conditions: those typed in each theorem.
-/
import Derived.Test.YtdliejnmpdodhaaMem
namespace Go.Proofs.Ytdliejnmpdodhaa
open Go.RowKit Go.ChangeShapes Go.WideShapes
set_option linter.unusedVariables false

/-- Data: numbers, truth values, slices (their elements' type; the elements, each a list of cells). -/
inductive D where
  | int (k : IntKind) (x : Int)
  | bool (b : Bool)
  | sl (t : TypeId) (es : List (List D))

/-- What a temporary holds, abstractly: whatever; the nil slice; data; a slot's slice; a literal's (n elements, the slot holds its cells); the place of a variable's cell, of an element's cell, of data; a struct; several results; a function. -/
inductive V where
  | any
  | nil (t : TypeId)
  | d (x : D)
  | ref (s : Nat)
  | lit (s n : Nat)
  | ptr (s o : Nat)
  | eptr (s n i j : Nat)
  | cptr (ds : List D)
  | agg (xs : List V)
  | tup (xs : List V)
  | fn (f : FuncId) (xs : List V)

/-- A local object: gone; not yet made; a row of elements (owned with all that hangs on them, or not); a variable's cells. -/
inductive Slot where
  | dead
  | unborn
  | arr (t : TypeId) (ow : Bool) (es : List (List D))
  | var (t : TypeId) (xs : List V)

structure St where
  tmps : List V
  slots : List Slot

/-! ### Data that are read -/
inductive Rd (w : World) (G : Nat → Prop) : D → Value → Prop
  | int (k : IntKind) (x : Int) : Rd w G (.int k x) (.int k x)
  | bool (b : Bool) : Rd w G (.bool b) (.bool b)
  | nil (t : TypeId) (A : Option Addr) (c : Nat) : Rd w G (.sl t []) (.slice A 0 c)
  | sl (t : TypeId) (es : List (List D)) (b o c s : Nat) (u : Nat → Nat → Value) (hn : es.length ≤ 9223372036854775807) (hcap : es.length ≤ c) (hG : G b) (hs : ∀ e ∈ es, e.length = s)
      (hc : ∀ i e j d, es[i]? = some e → e[j]? = some d → w.cell? ⟨b, o + i * s + j, none⟩ = some (u i j)) (hr : ∀ i e j d, es[i]? = some e → e[j]? = some d → Rd w G d (u i j)) :
      Rd w G (.sl t es) (.slice (some ⟨b, o, none⟩) es.length c)

theorem Rd.mono {w w' : World} {G G' : Nat → Prop} {d : D} {v : Value} (h : Rd w G d v) (hk : ∀ b, G b → G' b ∧ ∀ o, w'.cell? ⟨b, o, none⟩ = w.cell? ⟨b, o, none⟩) : Rd w' G' d v := by
  induction h with
  | int k x => exact .int k x
  | bool b => exact .bool b
  | nil t A c => exact .nil t A c
  | sl t es b o c s u hn hcap hG hs hc hr ih => exact .sl t es b o c s u hn hcap (hk b hG).1 hs (fun i e j d he hd => ((hk b hG).2 _).trans (hc i e j d he hd)) ih
theorem Rd.one {w : World} {G : Nat → Prop} {d : D} {v : Value} (h : Rd w G d v) : v.oneCell' = true := by cases h <;> rfl
theorem Rd.len {w : World} {G : Nat → Prop} {t : TypeId} {es : List (List D)} {v : Value} (h : Rd w G (.sl t es) v) : ∃ A c, v = .slice A es.length c ∧ es.length ≤ 9223372036854775807 := by
  cases h with
  | nil => exact ⟨_, _, rfl, by simp⟩
  | sl _ _ _ _ _ _ _ hn => exact ⟨_, _, rfl, hn⟩

/-! ### Data that are owned, with all that hangs on them -/
section
variable (P : Program) (w : World)
inductive Owns : List D → List Value → List Nat → Prop
  | nil : Owns [] [] []
  | int (k : IntKind) (x : Int) {ds : List D} {vs : List Value} {F : List Nat} (h : Owns ds vs F) : Owns (.int k x :: ds) (.int k x :: vs) F
  | bool (b : Bool) {ds : List D} {vs : List Value} {F : List Nat} (h : Owns ds vs F) : Owns (.bool b :: ds) (.bool b :: vs) F
  | none (t : TypeId) {ds : List D} {vs : List Value} {F : List Nat} (h : Owns ds vs F) : Owns (.sl t [] :: ds) (.slice none 0 0 :: vs) F
  | sl (t : TypeId) (es : List (List D)) (g c : Nat) (cur : Array Value) (Fs : List (List Nat)) (hg : w.heap[g]? = some (.cells cur t (0, 0))) (hcap : es.length ≤ c) (hc63 : c ≤ 9223372036854775807)
      (hsz : cur.size = c * P.cellsOf t) (hF : Fs.length = es.length) (hl : ∀ e ∈ es, e.length = P.cellsOf t)
      (he : ∀ i e f, es[i]? = some e → Fs[i]? = some f → Owns e ((cur.toList.drop (i * P.cellsOf t)).take (P.cellsOf t)) f)
      {ds : List D} {vs : List Value} {F : List Nat} (h : Owns ds vs F) : Owns (.sl t es :: ds) (.slice (some ⟨g, 0, Option.none⟩) es.length c :: vs) ((g :: Fs.flatten) ++ F)
end

/-- A row of elements, each under R. -/
def RowOf (P : Program) (w : World) (R : List D → List Value → List Nat → Prop) (t : TypeId) (es : List (List D)) (A : Option Nat) (c : Nat) (F : List Nat) : Prop :=
  c ≤ 9223372036854775807 ∧ es.length ≤ c ∧ ((A = none ∧ c = 0 ∧ F = []) ∨ ∃ (g : Nat) (cur : Array Value) (Fs : List (List Nat)), A = some g ∧ w.heap[g]? = some (.cells cur t (0, 0)) ∧ cur.size = c * P.cellsOf t ∧ Fs.length = es.length ∧
    (∀ e ∈ es, e.length = P.cellsOf t) ∧ (∀ i e f, es[i]? = some e → Fs[i]? = some f → R e ((cur.toList.drop (i * P.cellsOf t)).take (P.cellsOf t)) f) ∧ F = g :: Fs.flatten)

/-- The address of a row. -/
abbrev hdr (A : Option Nat) : Option Addr := A.map fun g => ⟨g, 0, none⟩

section
variable {P : Program} {w w' : World}
theorem Owns.len {ds : List D} {vs : List Value} {F : List Nat} (h : Owns P w ds vs F) : vs.length = ds.length := by
  induction h <;> simp_all
theorem Owns.lt {ds : List D} {vs : List Value} {F : List Nat} (h : Owns P w ds vs F) : ∀ g ∈ F, g < w.heap.size := by
  induction h with
  | nil => simp
  | int k x h ih => exact ih
  | bool b h ih => exact ih
  | none t h ih => exact ih
  | sl t es g c cur Fs hg hcap hc63 hsz hF hl he h ih ih2 =>
    intro q hq
    rcases List.mem_append.1 hq with hq | hq
    · rcases List.mem_cons.1 hq with rfl | hq
      · exact (Array.getElem?_eq_some_iff.1 hg).1
      · obtain ⟨f, hf, hq⟩ := List.mem_flatten.1 hq
        obtain ⟨i, hi, rfl⟩ := List.mem_iff_getElem.1 hf
        exact ih i (es[i]'(by omega)) Fs[i] (List.getElem?_eq_getElem (by omega)) (List.getElem?_eq_getElem hi) q hq
    · exact ih2 q hq
theorem Owns.stay {ds : List D} {vs : List Value} {F : List Nat} (h : Owns P w ds vs F) (hF : ∀ g ∈ F, w'.heap[g]? = w.heap[g]?) : Owns P w' ds vs F := by
  induction h with
  | nil => exact .nil
  | int k x h ih => exact .int k x (ih hF)
  | bool b h ih => exact .bool b (ih hF)
  | none t h ih => exact .none t (ih hF)
  | sl t es g c cur Fs hg hcap hc63 hsz hFl hl he h ih ih2 =>
    refine .sl t es g c cur Fs ((hF g (by simp)).trans hg) hcap hc63 hsz hFl hl (fun i e f h1 h2 => ih i e f h1 h2 fun q hq => hF q ?_) (ih2 fun q hq => hF q (by simp [hq]))
    exact List.mem_append_left _ (List.mem_cons_of_mem _ (mem_flat h2 hq))
theorem Owns.one {ds : List D} {vs : List Value} {F : List Nat} (h : Owns P w ds vs F) : ∀ u ∈ vs, u.oneCell' = true := by
  induction h with
  | nil => simp
  | int k x h ih => intro u hu; rcases List.mem_cons.1 hu with rfl | hu; · rfl
                    · exact ih u hu
  | bool b h ih => intro u hu; rcases List.mem_cons.1 hu with rfl | hu; · rfl
                   · exact ih u hu
  | none t h ih => intro u hu; rcases List.mem_cons.1 hu with rfl | hu; · rfl
                   · exact ih u hu
  | sl t es g c cur Fs hg hcap hc63 hsz hFl hl he h ih ih2 => intro u hu; rcases List.mem_cons.1 hu with rfl | hu; · rfl
                                                              · exact ih2 u hu
/-- What is owned can be read. -/
theorem Owns.rd {ds : List D} {vs : List Value} {F : List Nat} {G : Nat → Prop} (h : Owns P w ds vs F) (hG : ∀ g ∈ F, G g) : ∀ (i : Nat) (d : D), ds[i]? = some d → ∃ v, vs[i]? = some v ∧ Rd w G d v := by
  induction h with
  | nil => intro i d h; simp at h
  | int k x h ih =>
    intro i d hd
    match i with
    | 0 => simp at hd; subst hd; exact ⟨_, rfl, .int k x⟩
    | i + 1 => simp at hd; simpa using ih hG i d hd
  | bool b h ih =>
    intro i d hd
    match i with
    | 0 => simp at hd; subst hd; exact ⟨_, rfl, .bool b⟩
    | i + 1 => simp at hd; simpa using ih hG i d hd
  | none t h ih =>
    intro i d hd
    match i with
    | 0 => simp at hd; subst hd; exact ⟨_, rfl, .nil t _ _⟩
    | i + 1 => simp at hd; simpa using ih hG i d hd
  | sl t es g c cur Fs hg hcap hc63 hsz hFl hl he h ih ih2 =>
    intro i d hd
    match i with
    | i + 1 => simp at hd; simpa using ih2 (fun q hq => hG q (by simp [hq])) i d hd
    | 0 =>
      simp at hd; subst hd
      refine ⟨_, rfl, ?_⟩
      have key : ∀ i e j d, es[i]? = some e → e[j]? = some d → ∃ v, cur[i * P.cellsOf t + j]? = some v ∧ Rd w G d v := by
        intro i e j d h1 h2
        have hil : i < es.length := (List.getElem?_eq_some_iff.1 h1).1
        have hf : Fs[i]? = some (Fs[i]'(by omega)) := List.getElem?_eq_getElem (by omega)
        obtain ⟨v, hv, hr⟩ := ih i e _ h1 hf (fun q hq => hG q (List.mem_append_left _ (List.mem_cons_of_mem _ (mem_flat hf hq)))) j d h2
        refine ⟨v, ?_, hr⟩
        rw [List.getElem?_take] at hv
        split at hv
        · rw [List.getElem?_drop, Array.getElem?_toList] at hv
          exact hv
        · cases hv
      refine .sl t es g 0 c (P.cellsOf t) (fun i j => (cur[i * P.cellsOf t + j]?).getD default) (by omega) hcap (hG g (by simp)) hl ?_ ?_
      · intro i e j d h1 h2
        obtain ⟨v, hv, _⟩ := key i e j d h1 h2
        rw [cell_of_row w g _ cur t (0, 0) hg, Nat.zero_add, hv]
        rfl
      · intro i e j d h1 h2
        obtain ⟨v, hv, hr⟩ := key i e j d h1 h2
        rw [hv]
        exact hr
theorem Owns.append {ds ds' : List D} {vs vs' : List Value} {F F' : List Nat} (h : Owns P w ds vs F) (h' : Owns P w ds' vs' F') : Owns P w (ds ++ ds') (vs ++ vs') (F ++ F') := by
  induction h with
  | nil => exact h'
  | int k x h ih => exact .int k x ih
  | bool b h ih => exact .bool b ih
  | none t h ih => exact .none t ih
  | sl t es g c cur Fs hg hcap hc63 hsz hFl hl he h ih ih2 => rw [List.append_assoc]; exact .sl t es g c cur Fs hg hcap hc63 hsz hFl hl he ih2
/-- One cell that is owned, as a row. -/
theorem owns_row {t : TypeId} {es : List (List D)} {A : Option Nat} {c : Nat} {F : List Nat} (h : RowOf P w (Owns P w) t es A c F) : Owns P w [.sl t es] [.slice (hdr A) es.length c] F := by
  obtain ⟨h1, h2, ⟨rfl, rfl, rfl⟩ | ⟨g, cur, Fs, rfl, h3, h4, h5, h6, h7, rfl⟩⟩ := h
  · obtain rfl : es = [] := List.eq_nil_of_length_eq_zero (by omega)
    exact .none t .nil
  · have := Owns.sl t es g c cur Fs h3 h2 h1 h4 h5 h6 h7 .nil
    simpa using this
theorem row_owns {t : TypeId} {es : List (List D)} {v : Value} {F : List Nat} (h : Owns P w [.sl t es] [v] F) : ∃ A c, v = .slice (hdr A) es.length c ∧ RowOf P w (Owns P w) t es A c F := by
  cases h with
  | none t h => cases h; exact ⟨none, 0, rfl, by omega, by simp, .inl ⟨rfl, rfl, rfl⟩⟩
  | sl t es g c cur Fs hg hcap hc63 hsz hFl hl he h =>
    cases h
    exact ⟨some g, c, rfl, hc63, hcap, .inr ⟨g, cur, Fs, rfl, hg, hsz, hFl, hl, he, by simp⟩⟩
theorem RowOf.lt {R : List D → List Value → List Nat → Prop} {t : TypeId} {es : List (List D)} {A : Option Nat} {c : Nat} {F : List Nat} (h : RowOf P w R t es A c F) (hR : ∀ e cs f, R e cs f → ∀ g ∈ f, g < w.heap.size) : ∀ g ∈ F, g < w.heap.size := by
  obtain ⟨h1, h2, ⟨rfl, rfl, rfl⟩ | ⟨g, cur, Fs, rfl, h3, h4, h5, h6, h7, rfl⟩⟩ := h
  · simp
  · intro q hq
    rcases List.mem_cons.1 hq with rfl | hq
    · exact (Array.getElem?_eq_some_iff.1 h3).1
    · obtain ⟨f, hf, hq⟩ := List.mem_flatten.1 hq
      obtain ⟨i, hi, rfl⟩ := List.mem_iff_getElem.1 hf
      exact hR _ _ _ (h7 i (es[i]'(by omega)) Fs[i] (List.getElem?_eq_getElem (by omega)) (List.getElem?_eq_getElem hi)) q hq
theorem RowOf.stay {R R' : List D → List Value → List Nat → Prop} {t : TypeId} {es : List (List D)} {A : Option Nat} {c : Nat} {F : List Nat} (h : RowOf P w R t es A c F) (hF : ∀ g, A = some g → w'.heap[g]? = w.heap[g]?)
    (hR : ∀ e cs f, e ∈ es → (∀ q ∈ f, q ∈ F) → R e cs f → R' e cs f) : RowOf P w' R' t es A c F := by
  obtain ⟨h1, h2, h | ⟨g, cur, Fs, rfl, h3, h4, h5, h6, h7, rfl⟩⟩ := h
  · exact ⟨h1, h2, .inl h⟩
  · exact ⟨h1, h2, .inr ⟨g, cur, Fs, rfl, (hF g rfl).trans h3, h4, h5, h6, fun i e f he hf => hR e _ f (List.mem_of_getElem? he) (fun q hq => List.mem_cons_of_mem _ (mem_flat hf hq)) (h7 i e f he hf), rfl⟩⟩
theorem RowOf.cap {R : List D → List Value → List Nat → Prop} {t : TypeId} {es : List (List D)} {A : Option Nat} {c : Nat} {F : List Nat} (h : RowOf P w R t es A c F) : es.length ≤ c := h.2.1
end
/-- Cells that are read, element-wise; they own nothing. -/
def Rds (w : World) (G : Nat → Prop) (ds : List D) (vs : List Value) (f : List Nat) : Prop := f = [] ∧ vs.length = ds.length ∧ ∀ (i : Nat) (d : D), ds[i]? = some d → ∃ v, vs[i]? = some v ∧ Rd w G d v
theorem Rds.mono {w w' : World} {G G' : Nat → Prop} {ds : List D} {vs : List Value} {f : List Nat} (h : Rds w G ds vs f) (hk : ∀ b, G b → G' b ∧ ∀ o, w'.cell? ⟨b, o, none⟩ = w.cell? ⟨b, o, none⟩) : Rds w' G' ds vs f :=
  ⟨h.1, h.2.1, fun i d hd => let ⟨v, h1, h2⟩ := h.2.2 i d hd; ⟨v, h1, h2.mono hk⟩⟩
theorem Rds.one {w : World} {G : Nat → Prop} {ds : List D} {vs : List Value} {f : List Nat} (h : Rds w G ds vs f) : ∀ u ∈ vs, u.oneCell' = true := by
  intro u hu
  obtain ⟨i, hi, rfl⟩ := List.mem_iff_getElem.1 hu
  obtain ⟨v, h1, h2⟩ := h.2.2 i (ds[i]'(by have := h.2.1; omega)) (List.getElem?_eq_getElem _)
  rw [List.getElem?_eq_getElem hi] at h1
  obtain rfl := Option.some.inj h1
  exact h2.one
theorem Owns.rds {P : Program} {w : World} {ds : List D} {vs : List Value} {F : List Nat} {G : Nat → Prop} (h : Owns P w ds vs F) (hG : ∀ g ∈ F, G g) : Rds w G ds vs [] := ⟨rfl, h.len, h.rd hG⟩

end Go.Proofs.Ytdliejnmpdodhaa
