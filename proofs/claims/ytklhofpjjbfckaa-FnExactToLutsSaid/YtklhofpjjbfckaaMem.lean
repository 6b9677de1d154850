/-
  How slices and their elements read in memory: 'rd' (read only, all below a block number), 'ow' (owned, through a list of blocks). Plain lemmas, about no function of the program.
  Conditions: those typed in each theorem.
-/
import Derived.Test.YtklhofpjjbfckaaBase
import Derived.Maps.AppendAt
import Derived.Laws.MakeOwn
import Derived.Laws.OwnMore
namespace Go.Proofs.Ytklhofpjjbfckaa
open Go.RowKit Go.ChangeShapes Go.WideShapes

/-- Two data are one: a Bool that no tactic looks into. -/
def same {α : Type} [DecidableEq α] (x y : α) : Bool := decide (x = y)
theorem same_true {α : Type} [DecidableEq α] {x y : α} (h : x = y) : same x y = true := decide_eq_true h
theorem same_false {α : Type} [DecidableEq α] {x y : α} (h : ¬ x = y) : same x y = false := decide_eq_false h
theorem of_same {α : Type} [DecidableEq α] {x y : α} (h : same x y = true) : x = y := of_decide_eq_true h
theorem not_same {α : Type} [DecidableEq α] {x y : α} (h : same x y = false) : ¬ x = y := of_decide_eq_false h
theorem same_self {α : Type} [DecidableEq α] (x : α) : same x x = true := same_true rfl

/-- How a Go type reads as data of the Lean type α. -/
structure Ty (α : Type) where
  id : TypeId
  size : Nat
  rd : World → Nat → List Value → α → Prop
  ow : World → List Value → α → List Nat → Prop
  pos : 0 < size
  keep : ∀ {w w' : World} {B : Nat} {cs : List Value} {d : α}, (∀ p : Addr, p.block < B → w'.cell? p = w.cell? p) → rd w B cs d → rd w' B cs d
  mono : ∀ {w : World} {B B' : Nat} {cs : List Value} {d : α}, B ≤ B' → rd w B cs d → rd w B' cs d
  stay : ∀ {w w' : World} {cs : List Value} {d : α} {F : List Nat}, (∀ g ∈ F, w'.heap[g]? = w.heap[g]?) → ow w cs d F → ow w' cs d F
  lt : ∀ {w : World} {cs : List Value} {d : α} {F : List Nat}, ow w cs d F → ∀ g ∈ F, g < w.heap.size
  toRd : ∀ {w : World} {cs : List Value} {d : α} {F : List Nat} {B : Nat}, ow w cs d F → (∀ g ∈ F, g < B) → rd w B cs d
  len : ∀ {w : World} {cs : List Value} {d : α} {F : List Nat}, ow w cs d F → cs.length = size
  one : ∀ {w : World} {cs : List Value} {d : α} {F : List Nat}, ow w cs d F → ∀ u ∈ cs, u.oneCell' = true
  rlen : ∀ {w : World} {B : Nat} {cs : List Value} {d : α}, rd w B cs d → cs.length = size

/-! ### A block that is known whole -/
theorem heap_alloc_get (w : World) (o : Obj) (k : Nat) : (w.alloc o).heap[k]? = if k = w.heap.size then some o else w.heap[k]? := by
  show (w.heap.push o)[k]? = _
  rw [Array.getElem?_push]
def Blk (w : World) (g : Nat) (t : TypeId) (cs : Array Value) : Prop := w.heap[g]? = some (.cells cs t (0, 0))
section
variable {w w' : World} {g : Nat} {t : TypeId} {cs : Array Value}
theorem Blk.lt (h : Blk w g t cs) : g < w.heap.size := (Array.getElem?_eq_some_iff.1 h).1
theorem Blk.cell (h : Blk w g t cs) (i : Nat) : w.cell? ⟨g, i, none⟩ = cs[i]? := cell_of_row w g i cs t (0, 0) h
theorem Blk.frozen (h : Blk w g t cs) (i : Nat) : w.frozen? ⟨g, i, none⟩ = false := frozen_of_row w g i cs t h
theorem Blk.new (w : World) (t : TypeId) (cs : Array Value) : Blk (w.alloc (.cells cs t)) w.heap.size t cs := heap_alloc_new w _
theorem Blk.alloc (h : Blk w g t cs) (o : Obj) : Blk (w.alloc o) g t cs := (Below.heap_alloc w o g h.lt).trans h
theorem Blk.set_ (h : Blk w g t cs) (i : Nat) (u : Value) : Blk (w.setCell ⟨g, i, none⟩ u) g t (cs.setIfInBounds i u) := heap_setCell_same w g i cs t u h
theorem Blk.far (h : Blk w g t cs) {p : Addr} (hp : g ≠ p.block) (u : Value) : Blk (w.setCell p u) g t cs := (heap_setCell_other w p g u hp).trans h
theorem Blk.below {B : Nat} (h : Blk w g t cs) (hb : Below B w w') (hg : g < B) : Blk w' g t cs := (hb.block g hg).trans h
theorem Blk.drewN (h : Blk w g t cs) (n : Nat) : Blk (w.drewN n) g t cs := h
/-- A function whose one result is a struct in memory. -/
theorem ret_struct {P : Program} {fn : Func} {R : Ending → World → Prop} {tmps : Array Value} {p : Tmp} {ty : TypeId} {fs : Array Field} (hr : fn.results = #[.cell p ty]) (hp : tmps.getD p undef = .pointer (some ⟨g, 0, none⟩))
    (h : Blk w g t cs) (hu : P.underlying ty = some (.struct fs)) (hi : (P.info? ty).map (·.size) = some cs.size) (hR : R (.returned (.agg cs)) w) : bodyPost P fn R .ret { tmps := tmps, defers := [] } w :=
  bodyPost_ret (results_cell_row hr tmps w g t cs (0, 0) _ hp h hu rfl hi) rfl hR
end

/-! ### A slice that is read -/
def SlR {α : Type} (T : Ty α) (w : World) (B : Nat) (A : Option Addr) (xs : List α) : Prop :=
  xs.length ≤ 9223372036854775807 ∧ (0 < xs.length → ∃ b o, A = some ⟨b, o, none⟩ ∧ b < B ∧ ∀ i x, xs[i]? = some x →
    ∃ cs : List Value, (∀ j u, cs[j]? = some u → w.cell? ⟨b, o + i * T.size + j, none⟩ = some u) ∧ T.rd w B cs x)

section
variable {α : Type} {T : Ty α} {w w' : World} {B B' : Nat} {A : Option Addr} {xs : List α}
theorem SlR.keep (h : SlR T w B A xs) (hk : ∀ p : Addr, p.block < B → w'.cell? p = w.cell? p) : SlR T w' B A xs :=
  ⟨h.1, fun hn => by
    obtain ⟨b, o, e, hb, hc⟩ := h.2 hn
    refine ⟨b, o, e, hb, fun i x hx => ?_⟩
    obtain ⟨cs, h1, h2⟩ := hc i x hx
    exact ⟨cs, fun j u hu => (hk _ hb).trans (h1 j u hu), T.keep hk h2⟩⟩
theorem SlR.below (h : SlR T w B A xs) (hb : Below B w w') : SlR T w' B A xs := h.keep fun _ hp => hb.cell hp
theorem SlR.mono (h : SlR T w B A xs) (hB : B ≤ B') : SlR T w B' A xs :=
  ⟨h.1, fun hn => by
    obtain ⟨b, o, e, hb, hc⟩ := h.2 hn
    refine ⟨b, o, e, by omega, fun i x hx => ?_⟩
    obtain ⟨cs, h1, h2⟩ := hc i x hx
    exact ⟨cs, h1, T.mono hB h2⟩⟩
theorem SlR.nil : SlR T w B A [] := ⟨by simp, fun h => absurd h (by simp)⟩
/-- The element in place k: its cells, at the address that the walk reckons. -/
theorem SlR.at_ (h : SlR T w B A xs) {k : Nat} (hk : k < xs.length) : ∃ b o x cs, A = some ⟨b, o, none⟩ ∧ b < B ∧ xs[k]? = some x ∧ (∀ j u, cs[j]? = some u → w.cell? ⟨b, o + k * T.size + j, none⟩ = some u) ∧ T.rd w B cs x := by
  obtain ⟨b, o, e, hb, hc⟩ := h.2 (by omega)
  obtain ⟨cs, h1, h2⟩ := hc k _ (List.getElem?_eq_getElem hk)
  exact ⟨b, o, xs[k], cs, e, hb, List.getElem?_eq_getElem hk, h1, h2⟩
/-- The same where an element is one cell. -/
theorem SlR.at1 (h : SlR T w B A xs) (hs : T.size = 1) {k : Nat} (hk : k < xs.length) : ∃ b o x u, A = some ⟨b, o, none⟩ ∧ b < B ∧ xs[k]? = some x ∧ w.cell? ⟨b, o + k, none⟩ = some u ∧ T.rd w B [u] x := by
  obtain ⟨b, o, x, cs, e, hb, hx, h1, h2⟩ := h.at_ hk
  have hl := T.rlen h2
  rw [hs] at hl h1
  match cs, hl with
  | [u], _ => exact ⟨b, o, x, u, e, hb, hx, by simpa using h1 0 u rfl, h2⟩
end

/-! ### Rows that the call owns -/
/-- Block g is a row of c elements; its first ones own 'xs', through the blocks 'Fs'. -/
structure Row {α : Type} (T : Ty α) (w : World) (g c : Nat) (xs : List α) (Fs : List (List Nat)) : Prop where
  cap : xs.length ≤ c
  len : Fs.length = xs.length
  row : ∃ cur : Array Value, w.heap[g]? = some (.cells cur T.id (0, 0)) ∧ cur.size = c * T.size ∧ ∀ (i : Nat) (x : α) (f : List Nat), xs[i]? = some x → Fs[i]? = some f → T.ow w ((cur.toList.drop (i * T.size)).take T.size) x f

section
variable {α : Type} {T : Ty α} {w w' : World} {g c : Nat} {xs : List α} {Fs : List (List Nat)}
theorem mem_flat {Fs : List (List Nat)} {i : Nat} {f : List Nat} (h : Fs[i]? = some f) {k : Nat} (hk : k ∈ f) : k ∈ Fs.flatten :=
  List.mem_flatten.2 ⟨f, List.mem_of_getElem? h, hk⟩
theorem Row.stay (h : Row T w g c xs Fs) (hg : w'.heap[g]? = w.heap[g]?) (hF : ∀ k ∈ Fs.flatten, w'.heap[k]? = w.heap[k]?) : Row T w' g c xs Fs := by
  obtain ⟨h1, h2, cur, hr, hs, hc⟩ := h
  exact ⟨h1, h2, cur, hg.trans hr, hs, fun i x f hx hf => T.stay (fun k hk => hF k (mem_flat hf hk)) (hc i x f hx hf)⟩
theorem Row.lt (h : Row T w g c xs Fs) : g < w.heap.size := by
  obtain ⟨_, _, cur, hr, _⟩ := h
  exact (Array.getElem?_eq_some_iff.1 hr).1
theorem Row.ltF (h : Row T w g c xs Fs) : ∀ k ∈ Fs.flatten, k < w.heap.size := by
  obtain ⟨h1, h2, cur, hr, hs, hc⟩ := h
  intro k hk
  obtain ⟨f, hf, hk⟩ := List.mem_flatten.1 hk
  obtain ⟨i, hi, rfl⟩ := List.mem_iff_getElem.1 hf
  have hx : i < xs.length := by omega
  exact T.lt (hc i xs[i] Fs[i] (List.getElem?_eq_getElem hx) (List.getElem?_eq_getElem hi)) k hk
theorem row_cells (h : Row T w g c xs Fs) {i : Nat} {x : α} (hx : xs[i]? = some x) : ∃ f cs, Fs[i]? = some f ∧ (∀ j u, cs[j]? = some u → w.cell? ⟨g, i * T.size + j, none⟩ = some u) ∧ T.ow w cs x f := by
  obtain ⟨h1, h2, cur, hr, hs, hc⟩ := h
  have hi : i < xs.length := (List.getElem?_eq_some_iff.1 hx).1
  have hf : Fs[i]? = some (Fs[i]'(by omega)) := List.getElem?_eq_getElem (by omega)
  refine ⟨_, _, hf, ?_, hc i x _ hx hf⟩
  intro j u hu
  rw [List.getElem?_take] at hu
  split at hu
  · rw [List.getElem?_drop] at hu
    rw [cell_of_row w g _ cur T.id (0, 0) hr]
    simpa using hu
  · cases hu
theorem Row.toRd (h : Row T w g c xs Fs) {B : Nat} (hB : g < B) (hF : ∀ k ∈ Fs.flatten, k < B) (hm : xs.length ≤ 9223372036854775807) : SlR T w B (some ⟨g, 0, none⟩) xs := by
  refine ⟨hm, fun _ => ⟨g, 0, rfl, hB, fun i x hx => ?_⟩⟩
  obtain ⟨f, cs, hf, h1, h2⟩ := row_cells h hx
  exact ⟨cs, fun j u hu => by simpa using h1 j u hu, T.toRd h2 (fun k hk => hF k (mem_flat hf hk))⟩
end

section
variable {α : Type} {T : Ty α} {w : World} {g c : Nat} {xs : List α} {Fs : List (List Nat)}
theorem Row.slot (h : Row T w g c xs Fs) {j : Nat} (hj : j < c * T.size) : ∃ u, w.cell? ⟨g, j, none⟩ = some u := by
  obtain ⟨_, _, cur, hr, hs, _⟩ := h
  rw [cell_of_row w g j cur T.id (0, 0) hr]
  exact ⟨cur[j]'(by omega), Array.getElem?_eq_getElem (by omega)⟩
theorem Row.free (h : Row T w g c xs Fs) (j : Nat) : w.frozen? ⟨g, j, none⟩ = false := by
  obtain ⟨_, _, cur, hr, _⟩ := h
  exact frozen_of_row w g j cur T.id hr
theorem Row.made (T : Ty α) (w : World) (z : Array Value) (c : Nat) : Row T (w.alloc (.cells (madeCells z (c * T.size)) T.id)) w.heap.size c ([] : List α) [] :=
  ⟨Nat.zero_le _, rfl, _, heap_alloc_new w _, size_madeCells _ _, fun i x f hx => by simp at hx⟩
theorem take_one_at {l : List Value} {k : Nat} {u : Value} (h : l[k]? = some u) : (l.drop k).take 1 = [u] := by
  obtain ⟨hk, hu⟩ := List.getElem?_eq_some_iff.1 h
  rw [List.drop_eq_getElem_cons hk]
  simp [hu]
theorem Row.set1 (h : Row T w g c xs Fs) (hs : T.size = 1) {k : Nat} {u : Value} {x : α} {f : List Nat} (hk : k < c) (hg : g ∉ Fs.flatten)
    (how : T.ow (w.setCell ⟨g, k, none⟩ u) [u] x f) {xs' : List α} {Fs' : List (List Nat)} (hl : xs'.length ≤ c) (hl' : Fs'.length = xs'.length)
    (hx : xs'[k]? = some x) (hf : Fs'[k]? = some f) (ho : ∀ i, i ≠ k → i < xs'.length → xs'[i]? = xs[i]? ∧ Fs'[i]? = Fs[i]?) : Row T (w.setCell ⟨g, k, none⟩ u) g c xs' Fs' := by
  obtain ⟨h1, h2, cur, hr, hsz, hc⟩ := h
  have hr' := heap_setCell_same w g k cur T.id u hr
  refine ⟨hl, hl', _, hr', by simpa using hsz, fun i y f' hy hf' => ?_⟩
  rw [hs] at hsz hc ⊢
  by_cases hi : i = k
  · subst hi
    rw [hx] at hy
    rw [hf] at hf'
    obtain rfl := Option.some.inj hy
    obtain rfl := Option.some.inj hf'
    have hu : (cur.setIfInBounds i u).toList[i]? = some u := by
      rw [Array.getElem?_toList, Array.getElem?_setIfInBounds_self_of_lt (by omega)]
    rw [Nat.mul_one, take_one_at hu]
    exact how
  · have hil : i < xs'.length := (List.getElem?_eq_some_iff.1 hy).1
    obtain ⟨e1, e2⟩ := ho i hi hil
    rw [e1] at hy
    rw [e2] at hf'
    have hold := hc i y f' hy hf'
    have hic : i < cur.size := by omega
    have hu : cur.toList[i]? = some cur[i] := by rw [Array.getElem?_toList, Array.getElem?_eq_getElem hic]
    have hu' : (cur.setIfInBounds k u).toList[i]? = some cur[i] := by
      rw [Array.getElem?_toList, Array.getElem?_setIfInBounds_ne (fun e => hi e.symm), Array.getElem?_eq_getElem hic]
    rw [Nat.mul_one, take_one_at hu] at hold
    rw [Nat.mul_one, take_one_at hu']
    exact T.stay (fun q hq => heap_setCell_other w _ q u (fun e => hg (by have : q = g := e; subst this; exact mem_flat hf' hq))) hold
end

/-- A slice value that is nil, or starts a row that the call owns. -/
def SlO {α : Type} (T : Ty α) (w : World) (A : Option Addr) (c : Nat) (xs : List α) (F : List Nat) : Prop :=
  c ≤ 9223372036854775807 ∧ ((A = none ∧ c = 0 ∧ xs = [] ∧ F = []) ∨ ∃ g Fs, A = some ⟨g, 0, none⟩ ∧ F = g :: Fs.flatten ∧ Row T w g c xs Fs)

section
variable {α : Type} {T : Ty α} {w w' : World} {A : Option Addr} {c : Nat} {xs : List α} {F : List Nat}
theorem SlO.nil : SlO T w none 0 [] [] := ⟨by omega, .inl ⟨rfl, rfl, rfl, rfl⟩⟩
theorem SlO.stay (h : SlO T w A c xs F) (hF : ∀ g ∈ F, w'.heap[g]? = w.heap[g]?) : SlO T w' A c xs F := by
  obtain ⟨hc, hn | ⟨g, Fs, rfl, rfl, hr⟩⟩ := h
  · exact ⟨hc, .inl hn⟩
  · exact ⟨hc, .inr ⟨g, Fs, rfl, rfl, hr.stay (hF g (by simp)) (fun k hk => hF k (by simp [hk]))⟩⟩
theorem SlO.lt (h : SlO T w A c xs F) : ∀ g ∈ F, g < w.heap.size := by
  obtain ⟨hc, ⟨_, _, _, rfl⟩ | ⟨g, Fs, rfl, rfl, hr⟩⟩ := h
  · simp
  · intro k hk
    rcases List.mem_cons.1 hk with rfl | hk
    · exact hr.lt
    · exact hr.ltF k hk
theorem SlO.cap (h : SlO T w A c xs F) : xs.length ≤ c := by
  obtain ⟨hc, ⟨_, _, rfl, _⟩ | ⟨g, Fs, rfl, rfl, hr⟩⟩ := h
  · simp
  · exact hr.cap
theorem SlO.toRd {B : Nat} (h : SlO T w A c xs F) (hB : ∀ g ∈ F, g < B) : SlR T w B A xs := by
  have hcap := h.cap
  obtain ⟨hc, ⟨rfl, _, rfl, rfl⟩ | ⟨g, Fs, rfl, rfl, hr⟩⟩ := h
  · exact SlR.nil
  · exact hr.toRd (hB g (by simp)) (fun k hk => hB k (by simp [hk])) (by omega)
theorem SlO.rd (h : SlO T w A c xs F) : SlR T w w.heap.size A xs := h.toRd h.lt
theorem SlO.below {B : Nat} (h : SlO T w A c xs F) (hb : Below B w w') (hF : ∀ g ∈ F, g < B) : SlO T w' A c xs F := h.stay fun g hg => hb.block g (hF g hg)
/-- A literal without elements. -/
theorem SlO.made0 (T : Ty α) (w : World) : SlO T (w.alloc (.cells #[] T.id)) (some ⟨w.heap.size, 0, none⟩) 0 ([] : List α) [w.heap.size] :=
  ⟨by omega, .inr ⟨w.heap.size, [], rfl, by simp, ⟨Nat.le_refl _, rfl, #[], heap_alloc_new w _, by simp, fun i x f hx => by simp at hx⟩⟩⟩
theorem SlO.far (h : SlO T w A c xs F) {p : Addr} (hp : p.block ∉ F) (u : Value) : SlO T (w.setCell p u) A c xs F :=
  h.stay fun g hg => heap_setCell_other w p g u (fun e => hp (e ▸ hg))
theorem SlO.alloc (h : SlO T w A c xs F) (o : Obj) : SlO T (w.alloc o) A c xs F := h.stay fun g hg => Below.heap_alloc w o g (h.lt g hg)
theorem SlO.after (h : SlO T w A c xs F) (hb : Below w.heap.size w w') : SlO T w' A c xs F := h.below hb h.lt
end

section
variable {α : Type} {T : Ty α} {w w' : World} {A : Option Addr} {c : Nat} {xs : List α} {F : List Nat}
theorem SlO.at_ (h : SlO T w A c xs F) {k : Nat} (hk : k < xs.length) : ∃ g Fs, A = some ⟨g, 0, none⟩ ∧ F = g :: Fs.flatten ∧ Row T w g c xs Fs := by
  obtain ⟨_, ⟨_, _, rfl, _⟩ | ⟨g, Fs, rfl, rfl, hr⟩⟩ := h
  · simp at hk
  · exact ⟨g, Fs, rfl, rfl, hr⟩
/-- An element that owns no block of its own. -/
def Ty.Leaf (T : Ty α) : Prop := ∀ {w : World} {cs : List Value} {d : α} {F : List Nat}, T.ow w cs d F → F = []
theorem Row.leaf {g : Nat} {Fs : List (List Nat)} (h : Row T w g c xs Fs) (hl : T.Leaf) : Fs.flatten = [] := by
  obtain ⟨h1, h2, cur, hr, hs, hc⟩ := h
  rw [List.flatten_eq_nil_iff]
  intro f hf
  obtain ⟨i, hi, rfl⟩ := List.mem_iff_getElem.1 hf
  exact hl (hc i (xs[i]'(by omega)) Fs[i] (List.getElem?_eq_getElem (by omega)) (List.getElem?_eq_getElem hi))
theorem nil_at {Fs : List (List Nat)} (h : Fs.flatten = []) {i : Nat} (hi : i < Fs.length) : Fs[i]? = some [] := by
  rw [List.getElem?_eq_getElem hi, List.flatten_eq_nil_iff.1 h _ (List.getElem_mem hi)]
theorem SlO.set_leaf (h : SlO T w A c xs F) (hl : T.Leaf) (hs : T.size = 1) {g k : Nat} (hA : A = some ⟨g, 0, none⟩) (hk : k < xs.length) {u : Value} {x : α} (how : ∀ W, T.ow W [u] x []) :
    SlO T (w.setCell ⟨g, k, none⟩ u) A c (xs.set k x) F := by
  obtain ⟨g', Fs, hA', rfl, hr⟩ := h.at_ hk
  have hgg : g' = g := by rw [hA] at hA'; injection hA' with e; injection e with e; exact e.symm
  subst hgg
  have hf := hr.leaf hl
  have hlen := hr.len
  refine ⟨h.1, .inr ⟨g', Fs, hA, rfl, ?_⟩⟩
  refine hr.set1 hs (by have := hr.cap; omega) (by rw [hf]; simp) (how _) (by simpa using hr.cap) (by simpa using hlen) (by simp [hk]) (nil_at hf (by omega)) (fun i hi hil => ⟨?_, rfl⟩)
  rw [List.getElem?_set_ne (fun e => hi e.symm)]
theorem Row.push_leaf {g : Nat} {Fs : List (List Nat)} (h : Row T w g c xs Fs) (hl : T.Leaf) (hs : T.size = 1) (hk : xs.length < c) {u : Value} {x : α} (how : ∀ W, T.ow W [u] x []) :
    Row T (w.setCell ⟨g, xs.length, none⟩ u) g c (xs ++ [x]) (Fs ++ [[]]) := by
  have hf := h.leaf hl
  have hlen := h.len
  refine h.set1 hs hk (by rw [hf]; simp) (how _) (by simp; omega) (by simpa using hlen) (by simp) (by rw [← hlen]; simp) (fun i hi hil => ?_)
  have hil' : i < xs.length := by simp at hil; omega
  exact ⟨List.getElem?_append_left hil', List.getElem?_append_left (by omega)⟩
end

section
variable {α : Type} {T : Ty α} {w w' : World} {A : Option Addr} {c : Nat} {xs : List α} {F : List Nat}
/-- One element more, of one cell, with blocks of its own. -/
theorem Row.push1 {g : Nat} {Fs : List (List Nat)} (h : Row T w g c xs Fs) (hs : T.size = 1) (hk : xs.length < c) {u : Value} {x : α} {f : List Nat} (how : T.ow w [u] x f) (hg : g ∉ Fs.flatten) (hf : g ∉ f) :
    Row T (w.setCell ⟨g, xs.length, none⟩ u) g c (xs ++ [x]) (Fs ++ [f]) := by
  have hlen := h.len
  refine h.set1 hs hk hg (T.stay (fun q hq => heap_setCell_other w _ q u (fun e => hf (by have : q = g := e; subst this; exact hq))) how) (by simp; omega) (by simpa using hlen) (by simp) (by rw [← hlen]; simp) (fun i hi hil => ?_)
  have hil' : i < xs.length := by simp at hil; omega
  exact ⟨List.getElem?_append_left hil', List.getElem?_append_left (by omega)⟩
theorem flat_snoc (Fs : List (List Nat)) (f : List Nat) : (Fs ++ [f]).flatten = Fs.flatten ++ f := by simp
/-- What is new lies above what was there. -/
theorem nodup_snoc {a f : List Nat} {n : Nat} (ha : a.Nodup) (hf : f.Nodup) (h1 : ∀ q ∈ a, q < n) (h2 : ∀ q ∈ f, n ≤ q) : (a ++ f).Nodup :=
  List.nodup_append.2 ⟨ha, hf, fun x hx y hy e => by have := h1 x hx; have := h2 y hy; omega⟩
end
/-! ### The types -/
def intT : Ty Int where
  id := 3
  size := 1
  rd := fun _ _ cs x => cs = [.int .i64 x]
  ow := fun _ cs x F => cs = [.int .i64 x] ∧ F = []
  pos := by omega
  keep := fun _ h => h
  mono := fun _ h => h
  stay := fun _ h => h
  lt := fun h => by simp [h.2]
  toRd := fun h _ => h.1
  len := fun h => by simp [h.1]
  one := fun h => by simp [h.1, Value.oneCell']
  rlen := fun h => by simp [h]
def boolT : Ty Bool where
  id := 4
  size := 1
  rd := fun _ _ cs x => cs = [.bool x]
  ow := fun _ cs x F => cs = [.bool x] ∧ F = []
  pos := by omega
  keep := fun _ h => h
  mono := fun _ h => h
  stay := fun _ h => h
  lt := fun h => by simp [h.2]
  toRd := fun h _ => h.1
  len := fun h => by simp [h.1]
  one := fun h => by simp [h.1, Value.oneCell']
  rlen := fun h => by simp [h]
theorem intT_leaf : intT.Leaf := fun h => h.2
theorem boolT_leaf : boolT.Leaf := fun h => h.2
theorem int_ow (x : Int) (W : World) : intT.ow W [.int .i64 x] x [] := ⟨rfl, rfl⟩
theorem bool_ow (x : Bool) (W : World) : boolT.ow W [.bool x] x [] := ⟨rfl, rfl⟩
def slT {α : Type} (id : TypeId) (T : Ty α) : Ty (List α) where
  id := id
  size := 1
  rd := fun w B cs xs => ∃ A c, cs = [.slice A xs.length c] ∧ SlR T w B A xs
  ow := fun w cs xs F => ∃ A c, cs = [.slice A xs.length c] ∧ SlO T w A c xs F
  pos := by omega
  keep := fun hk ⟨A, c, h1, h2⟩ => ⟨A, c, h1, h2.keep hk⟩
  mono := fun hB ⟨A, c, h1, h2⟩ => ⟨A, c, h1, h2.mono hB⟩
  stay := fun hF ⟨A, c, h1, h2⟩ => ⟨A, c, h1, h2.stay hF⟩
  lt := fun ⟨_, _, _, h2⟩ => h2.lt
  toRd := fun ⟨A, c, h1, h2⟩ hB => ⟨A, c, h1, h2.toRd hB⟩
  len := fun ⟨_, _, h1, _⟩ => by simp [h1]
  one := fun ⟨_, _, h1, _⟩ => by simp [h1, Value.oneCell']
  rlen := fun ⟨_, _, h1, _⟩ => by simp [h1]

theorem SlR.int_at {w : World} {B : Nat} {A : Option Addr} {xs : List Int} (h : SlR intT w B A xs) {k : Nat} (hk : k < xs.length) :
    ∃ b o x, A = some ⟨b, o, none⟩ ∧ b < B ∧ xs[k]? = some x ∧ w.cell? ⟨b, o + k, none⟩ = some (.int .i64 x) := by
  obtain ⟨b, o, x, u, e, hb, hx, hc, hr⟩ := h.at1 rfl hk
  have hu : [u] = [.int .i64 x] := hr
  simp only [List.cons.injEq, and_true] at hu
  subst hu
  exact ⟨b, o, x, e, hb, hx, hc⟩
theorem SlR.bool_at {w : World} {B : Nat} {A : Option Addr} {xs : List Bool} (h : SlR boolT w B A xs) {k : Nat} (hk : k < xs.length) :
    ∃ b o x, A = some ⟨b, o, none⟩ ∧ b < B ∧ xs[k]? = some x ∧ w.cell? ⟨b, o + k, none⟩ = some (.bool x) := by
  obtain ⟨b, o, x, u, e, hb, hx, hc, hr⟩ := h.at1 rfl hk
  have hu : [u] = [.bool x] := hr
  simp only [List.cons.injEq, and_true] at hu
  subst hu
  exact ⟨b, o, x, e, hb, hx, hc⟩
theorem SlR.sl_at {α : Type} {id : TypeId} {T : Ty α} {w : World} {B : Nat} {A : Option Addr} {xs : List (List α)} (h : SlR (slT id T) w B A xs) {k : Nat} (hk : k < xs.length) :
    ∃ b o x A' c', A = some ⟨b, o, none⟩ ∧ b < B ∧ xs[k]? = some x ∧ w.cell? ⟨b, o + k, none⟩ = some (.slice A' x.length c') ∧ SlR T w B A' x := by
  obtain ⟨b, o, x, u, e, hb, hx, hc, A', c', hu, hr⟩ := h.at1 rfl hk
  simp only [List.cons.injEq, and_true] at hu
  subst hu
  exact ⟨b, o, x, A', c', e, hb, hx, hc, hr⟩

/-! ### Worlds in which only some blocks have turned -/
/-- Only the blocks of S, and what is new, may have turned. -/
structure Only (S : List Nat) (w w' : World) : Prop where
  os : w'.os = w.os
  tape : w'.tape = w.tape
  output : w'.output = w.output
  size : w.heap.size ≤ w'.heap.size
  block : ∀ k, k < w.heap.size → k ∉ S → w'.heap[k]? = w.heap[k]?
section
variable {S : List Nat} {a b c : World}
theorem Only.refl (S : List Nat) (w : World) : Only S w w := ⟨rfl, rfl, rfl, Nat.le_refl _, fun _ _ _ => rfl⟩
theorem Only.trans (h : Only S a b) (k : Only S b c) : Only S a c :=
  ⟨k.os.trans h.os, k.tape.trans h.tape, k.output.trans h.output, Nat.le_trans h.size k.size, fun i hi hn => (k.block i (Nat.lt_of_lt_of_le hi h.size) hn).trans (h.block i hi hn)⟩
theorem Only.mono {S' : List Nat} (h : Only S a b) (hs : ∀ k ∈ S, k ∈ S' ∨ a.heap.size ≤ k) : Only S' a b :=
  ⟨h.os, h.tape, h.output, h.size, fun i hi hn => h.block i hi (fun hi' => by rcases hs i hi' with h' | h' <;> first | exact hn h' | omega)⟩
theorem Only.of_below (h : Below a.heap.size a b) : Only S a b := ⟨h.os, h.tape, h.output, h.size, fun i hi _ => h.block i hi⟩
theorem Only.alloc (h : Only S a b) (o : Obj) : Only S a (b.alloc o) :=
  h.trans (Only.of_below (below1 b o))
theorem Only.drew (h : Only S a b) : Only S a b.drew := ⟨h.os, h.tape, h.output, h.size, h.block⟩
theorem Only.drewN (h : Only S a b) (n : Nat) : Only S a (b.drewN n) := ⟨h.os, h.tape, h.output, h.size, h.block⟩
theorem Only.setCell (h : Only S a b) {p : Addr} (hp : p.block ∈ S ∨ a.heap.size ≤ p.block) (u : Value) : Only S a (b.setCell p u) :=
  ⟨h.os, h.tape, h.output, by simpa [World.setCell] using h.size, fun i hi hn => by
    have hne : i ≠ p.block := by
      rintro rfl
      rcases hp with hp | hp
      · exact hn hp
      · omega
    exact (Below.heap_setCell _ _ _ _ hne).trans (h.block i hi hn)⟩
end

section
variable {α : Type} {T : Ty α} {id : TypeId} {w w' : World} {A : Option Addr} {c : Nat} {xs : List (List α)} {F : List Nat}
/-- The blocks of two elements have none in common. -/
theorem flat_disj : ∀ {Fs : List (List Nat)}, Fs.flatten.Nodup → ∀ {i j : Nat} {f f' : List Nat}, Fs[i]? = some f → Fs[j]? = some f' → i ≠ j → ∀ q ∈ f, q ∉ f'
  | [], _, i, _, _, _, hi, _, _ => by simp at hi
  | a :: Fs, hn, i, j, f, f', hi, hj, hne => by
    rw [List.flatten_cons, List.nodup_append] at hn
    obtain ⟨h1, h2, h3⟩ := hn
    intro q hq hq'
    match i, j with
    | 0, 0 => exact hne rfl
    | 0, j + 1 =>
      simp at hi hj; subst hi
      exact h3 q hq q (mem_flat hj hq') rfl
    | i + 1, 0 =>
      simp at hi hj; subst hj
      exact h3 q hq' q (mem_flat hi hq) rfl
    | i + 1, j + 1 =>
      simp at hi hj
      exact flat_disj h2 hi hj (by omega) q hq hq'
theorem SlO.only {α : Type} {T : Ty α} {w w' : World} {A : Option Addr} {c : Nat} {xs : List α} {F S : List Nat} (h : SlO T w A c xs F) (ho : Only S w w') (hd : ∀ g ∈ F, g ∈ S → False) : SlO T w' A c xs F :=
  h.stay fun g hg => ho.block g (h.lt g hg) (fun h' => hd g hg h')
theorem Blk.only {w w' : World} {g : Nat} {t : TypeId} {cs : Array Value} {S : List Nat} (h : Blk w g t cs) (ho : Only S w w') (hd : g ∈ S → False) : Blk w' g t cs :=
  (ho.block g h.lt (fun h' => hd h')).trans h
/-- An inner slice is written in place: the outer one owns what it owned. -/
theorem SlO.set_inner (h : SlO (slT id T) w A c xs F) (hF : F.Nodup) {g : Nat} {Fs : List (List Nat)} (hA : A = some ⟨g, 0, none⟩) (hFs : F = g :: Fs.flatten) (hr : Row (slT id T) w g c xs Fs)
    {j : Nat} {x x' : List α} {f : List Nat} (hx : xs[j]? = some x) (hf : Fs[j]? = some f) {A1 : Option Addr} {c1 : Nat} (hcell : w.cell? ⟨g, j, none⟩ = some (.slice A1 x.length c1)) (hlen : x'.length = x.length) (how : SlO T w' A1 c1 x' f) (ho : Only f w w') :
    SlO (slT id T) w' A c (xs.set j x') F := by
  rw [hFs, List.nodup_cons] at hF
  have hjl : j < xs.length := (List.getElem?_eq_some_iff.1 hx).1
  have hgf : g ∉ f := fun hq => hF.1 (mem_flat hf hq)
  have hkeep : ∀ q, q < w.heap.size → q ∉ f → w'.heap[q]? = w.heap[q]? := ho.block
  have hlt := hr.lt
  have hltF := hr.ltF
  refine ⟨h.1, .inr ⟨g, Fs, hA, hFs, ?_⟩⟩
  obtain ⟨h1, h2, cur, hrow, hs, hc⟩ := hr
  refine ⟨by simpa using h1, by simpa using h2, cur, (hkeep g hlt hgf).trans hrow, hs, fun i y f' hy hf' => ?_⟩
  by_cases hij : i = j
  · subst hij
    rw [hf] at hf'
    obtain rfl := Option.some.inj hf'
    rw [List.getElem?_set_self hjl] at hy
    obtain rfl := Option.some.inj hy
    have hcc := hcell
    rw [cell_of_row w g i cur (slT id T).id (0, 0) hrow] at hcc
    have hu : cur.toList[i]? = some (.slice A1 x.length c1) := by rw [Array.getElem?_toList]; exact hcc
    refine ⟨A1, c1, ?_, how⟩
    rw [show (slT id T).size = 1 from rfl, Nat.mul_one, take_one_at hu, hlen]
  · rw [List.getElem?_set_ne (fun e => hij e.symm)] at hy
    exact (slT id T).stay (fun q hq => hkeep q (hltF q (mem_flat hf' hq)) (flat_disj hF.2 hf' hf hij q hq)) (hc i y f' hy hf')
/-- The inner slice in place j. -/
theorem Row.inner {g : Nat} {Fs : List (List Nat)} (h : Row (slT id T) w g c xs Fs) {j : Nat} (hj : j < xs.length) : ∃ x f A1 c1, xs[j]? = some x ∧ Fs[j]? = some f ∧ w.cell? ⟨g, j, none⟩ = some (.slice A1 x.length c1) ∧ SlO T w A1 c1 x f := by
  have hx : xs[j]? = some xs[j] := List.getElem?_eq_getElem hj
  obtain ⟨f, cs, hf, h1, A1, c1, hcs, hr⟩ := row_cells h hx
  have hc := h1 0 (.slice A1 xs[j].length c1) (by rw [hcs]; rfl)
  rw [show (slT id T).size = 1 from rfl, Nat.mul_one, Nat.add_zero] at hc
  exact ⟨_, f, A1, c1, hx, hf, hc, hr⟩
end

end Go.Proofs.Ytklhofpjjbfckaa
