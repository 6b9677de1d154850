/-
  From a law's arguments, as the row reads them, to data; and from a law's contract to the law. Plain lemmas.
  Conditions: those typed in each theorem.
-/
import Derived.Test.YtdliejnmpdodhaaVn
namespace Go.Proofs.Ytdliejnmpdodhaa
open Go.RowKit Go.ChangeShapes Go.WideShapes Go.ChangeAt Go.Deep Go.Joins
set_option linter.unusedVariables false

/-- All integers of the data lie within their types. -/
inductive OkD : D → Prop
  | int (k : IntKind) (x : Int) (h : (Lit.int k x).wf = true) : OkD (.int k x)
  | bool (b : Bool) : OkD (.bool b)
  | sl (t : TypeId) (es : List (List D)) (h : ∀ e ∈ es, ∀ d ∈ e, OkD d) : OkD (.sl t es)
theorem OkD.i64 {x : Int} (h : OkD (.int .i64 x)) : -9223372036854775808 ≤ x ∧ x ≤ 9223372036854775807 := by
  cases h with
  | int _ _ h =>
    have h2 : (decide (IntKind.i64.min ≤ x) && decide (x ≤ IntKind.i64.max)) = true := h
    have a : IntKind.i64.min = -9223372036854775808 := by decide
    have b : IntKind.i64.max = 9223372036854775807 := by decide
    rw [a, b] at h2
    simpa using h2
def OpD {α : Type} (P : Program) (en : α → D) (t : TypeId) : Prop :=
  ∀ {H : Type} {enc : TypeId × Value → H} {W : World} {B fuel : Nat} {cs : List Value} {x : DataW H × List MemPlace},
    DataW.trod enc P W 0 (fun _ => true) true fuel t cs = some x → (∀ p ∈ x.2, p.block < B) → ∃ (d : α) (v : Value), cs = [v] ∧ Rd W (· < B) (en d) v ∧ OkD (en d)
def OpE {α : Type} (P : Program) (en : α → List D) (t : TypeId) : Prop :=
  ∀ {H : Type} {enc : TypeId × Value → H} {W : World} {B fuel : Nat} {cs : List Value} {x : DataW H × List MemPlace},
    DataW.trod enc P W 0 (fun _ => true) true fuel t cs = some x → (∀ p ∈ x.2, p.block < B) → ∃ d : α, Rds W (· < B) (en d) cs [] ∧ ∀ q ∈ en d, OkD q
def eInt (x : Int) : D := .int .i64 x
def eBool (x : Bool) : D := .bool x
def eSl {α : Type} (e : TypeId) (en : α → List D) (xs : List α) : D := .sl e (xs.map en)
def e1 {α : Type} (en : α → D) (x : α) : List D := [en x]
def e2 {α β : Type} (a : α → D) (b : β → D) (x : α × β) : List D := [a x.1, b x.2]
def e3 {α β γ : Type} (a : α → D) (b : β → D) (c : γ → D) (x : α × β × γ) : List D := [a x.1, b x.2.1, c x.2.2]
def e4 {α β γ δ : Type} (a : α → D) (b : β → D) (c : γ → D) (d : δ → D) (x : α × β × γ × δ) : List D := [a x.1, b x.2.1, c x.2.2.1, d x.2.2.2]
section
variable {P : Program} {t : TypeId}
theorem opd_int (ht : P.underlying t = some (.int .i64)) : OpD P eInt t := fun h _ => by
  obtain ⟨n, rfl, _, hw⟩ := DataW.trod_int ht h
  exact ⟨n, _, rfl, .int _ _, .int _ _ hw⟩
theorem opd_bool (ht : P.underlying t = some .bool) : OpD P eBool t := fun h _ => by
  obtain ⟨n, rfl, _⟩ := DataW.trod_bool ht h
  exact ⟨n, _, rfl, .bool _, .bool _⟩
theorem ope_1 {α : Type} {en : α → D} (h : OpD P en t) : OpE P (e1 en) t := fun h1 h2 => by
  obtain ⟨d, v, rfl, hr, ho⟩ := h h1 h2
  refine ⟨d, ⟨rfl, rfl, fun i x hx => ?_⟩, by simpa [e1] using ho⟩
  match i with
  | 0 => simp [e1] at hx; subst hx; exact ⟨v, rfl, hr⟩
  | i + 1 => simp [e1] at hx
theorem ope_2 {α β : Type} {a : α → D} {b : β → D} {f0 f1 : Field} (ht : P.underlying t = some (.struct #[f0, f1])) (c : P.cellsOf t = 2) (o0 : f0.offset = 0) (o1 : f1.offset = 1)
    (c0 : P.cellsOf f0.type = 1) (c1 : P.cellsOf f1.type = 1) (h0 : OpD P a f0.type) (h1 : OpD P b f1.type) : OpE P (e2 a b) t := by
  intro H enc W B fuel cs x h hlt
  obtain ⟨xs, n, _, rfl, hl, hlen, hf⟩ := DataW.trod_struct ht h
  rw [c] at hl
  match xs, hlen with
  | [y0, y1], _ =>
    match cs, hl with
    | [v0, v1], _ =>
      have k0 := hf 0 f0 rfl
      have k1 := hf 1 f1 rfl
      simp [o0, o1, c0, c1] at k0 k1
      obtain ⟨d0, u0, q0, r0, z0⟩ := h0 k0 (fun p hp => hlt p (by simp [hp]))
      obtain ⟨d1, u1, q1, r1, z1⟩ := h1 k1 (fun p hp => hlt p (by simp [hp]))
      cases q0; cases q1
      refine ⟨(d0, d1), ⟨rfl, rfl, fun i x hx => ?_⟩, by simp [e2, z0, z1]⟩
      match i with
      | 0 => simp [e2] at hx; subst hx; exact ⟨_, rfl, r0⟩
      | 1 => simp [e2] at hx; subst hx; exact ⟨_, rfl, r1⟩
      | i + 2 => simp [e2] at hx
theorem ope_3 {α β γ : Type} {a : α → D} {b : β → D} {g : γ → D} {f0 f1 f2 : Field} (ht : P.underlying t = some (.struct #[f0, f1, f2])) (c : P.cellsOf t = 3) (o0 : f0.offset = 0) (o1 : f1.offset = 1) (o2 : f2.offset = 2)
    (c0 : P.cellsOf f0.type = 1) (c1 : P.cellsOf f1.type = 1) (c2 : P.cellsOf f2.type = 1) (h0 : OpD P a f0.type) (h1 : OpD P b f1.type) (h2 : OpD P g f2.type) : OpE P (e3 a b g) t := by
  intro H enc W B fuel cs x h hlt
  obtain ⟨xs, n, _, rfl, hl, hlen, hf⟩ := DataW.trod_struct ht h
  rw [c] at hl
  match xs, hlen with
  | [y0, y1, y2], _ =>
    match cs, hl with
    | [v0, v1, v2], _ =>
      have k0 := hf 0 f0 rfl
      have k1 := hf 1 f1 rfl
      have k2 := hf 2 f2 rfl
      simp [o0, o1, o2, c0, c1, c2] at k0 k1 k2
      obtain ⟨d0, u0, q0, r0, z0⟩ := h0 k0 (fun p hp => hlt p (by simp [hp]))
      obtain ⟨d1, u1, q1, r1, z1⟩ := h1 k1 (fun p hp => hlt p (by simp [hp]))
      obtain ⟨d2, u2, q2, r2, z2⟩ := h2 k2 (fun p hp => hlt p (by simp [hp]))
      cases q0; cases q1; cases q2
      refine ⟨(d0, d1, d2), ⟨rfl, rfl, fun i x hx => ?_⟩, by simp [e3, z0, z1, z2]⟩
      match i with
      | 0 => simp [e3] at hx; subst hx; exact ⟨_, rfl, r0⟩
      | 1 => simp [e3] at hx; subst hx; exact ⟨_, rfl, r1⟩
      | 2 => simp [e3] at hx; subst hx; exact ⟨_, rfl, r2⟩
      | i + 3 => simp [e3] at hx
theorem ope_4 {α β γ δ : Type} {a : α → D} {b : β → D} {g : γ → D} {q : δ → D} {f0 f1 f2 f3 : Field} (ht : P.underlying t = some (.struct #[f0, f1, f2, f3])) (c : P.cellsOf t = 4) (o0 : f0.offset = 0) (o1 : f1.offset = 1) (o2 : f2.offset = 2) (o3 : f3.offset = 3)
    (c0 : P.cellsOf f0.type = 1) (c1 : P.cellsOf f1.type = 1) (c2 : P.cellsOf f2.type = 1) (c3 : P.cellsOf f3.type = 1) (h0 : OpD P a f0.type) (h1 : OpD P b f1.type) (h2 : OpD P g f2.type) (h3 : OpD P q f3.type) : OpE P (e4 a b g q) t := by
  intro H enc W B fuel cs x h hlt
  obtain ⟨xs, n, _, rfl, hl, hlen, hf⟩ := DataW.trod_struct ht h
  rw [c] at hl
  match xs, hlen with
  | [y0, y1, y2, y3], _ =>
    match cs, hl with
    | [v0, v1, v2, v3], _ =>
      have k0 := hf 0 f0 rfl
      have k1 := hf 1 f1 rfl
      have k2 := hf 2 f2 rfl
      have k3 := hf 3 f3 rfl
      simp [o0, o1, o2, o3, c0, c1, c2, c3] at k0 k1 k2 k3
      obtain ⟨d0, u0, q0, r0, z0⟩ := h0 k0 (fun p hp => hlt p (by simp [hp]))
      obtain ⟨d1, u1, q1, r1, z1⟩ := h1 k1 (fun p hp => hlt p (by simp [hp]))
      obtain ⟨d2, u2, q2, r2, z2⟩ := h2 k2 (fun p hp => hlt p (by simp [hp]))
      obtain ⟨d3, u3, q3, r3, z3⟩ := h3 k3 (fun p hp => hlt p (by simp [hp]))
      cases q0; cases q1; cases q2; cases q3
      refine ⟨(d0, d1, d2, d3), ⟨rfl, rfl, fun i x hx => ?_⟩, by simp [e4, z0, z1, z2, z3]⟩
      match i with
      | 0 => simp [e4] at hx; subst hx; exact ⟨_, rfl, r0⟩
      | 1 => simp [e4] at hx; subst hx; exact ⟨_, rfl, r1⟩
      | 2 => simp [e4] at hx; subst hx; exact ⟨_, rfl, r2⟩
      | 3 => simp [e4] at hx; subst hx; exact ⟨_, rfl, r3⟩
      | i + 4 => simp [e4] at hx
theorem spot_none' {w : World} {a : Addr} {u : Value} (h : w.cell? a = some u) : a.spot = none := by
  unfold World.cell? at h
  split at h
  · split at h
    · cases h
    · rename_i hs
      cases hp : a.spot with
      | none => rfl
      | some q => rw [hp] at hs; simp at hs
  · cases h
theorem opd_sl {α : Type} {en : α → List D} {e : TypeId} (ht : P.underlying t = some (.slice e)) (hpos : 0 < P.cellsOf e) (hE : ∀ x, (en x).length = P.cellsOf e) (hT : OpE P en e) : OpD P (eSl e en) t := by
  intro H enc W B fuel cs x h hlt
  rcases open_slice ht h with ⟨rfl, rfl⟩ | ⟨a, len, cap, m, n, D, Pl, rfl, hb, hl, hm, hmm, hx, hi⟩
  · exact ⟨[], _, rfl, .nil _ _ _, .sl _ _ (by simp)⟩
  · have hm' : m = cap := hmm
    subst hm'
    have hlen63 : len ≤ 9223372036854775807 := by simp only [maxLen] at hm; omega
    have hpl : ∀ i, i < m → ∀ p ∈ Pl i, p.block < B := by
      intro i him p hp
      refine hlt p ?_
      rw [hx]
      simp only [List.mem_append, List.mem_flatMap, List.mem_range]
      exact .inr ⟨i, him, hp⟩
    have helem : ∀ i, i < len → ∃ y : α × List Value, W.cells? 0 (a.add (i * P.cellsOf e)) (P.cellsOf e) = some y.2 ∧ Rds W (· < B) (en y.1) y.2 [] ∧ ∀ q ∈ en y.1, OkD q := by
      intro i hil
      obtain ⟨cs', hc, ht'⟩ := hi i (by omega)
      obtain ⟨d, hd⟩ := hT ht' (fun p hp => hpl i (by omega) p hp)
      exact ⟨(d, cs'), hc, hd⟩
    by_cases h0 : len = 0
    · subst h0
      exact ⟨[], _, rfl, .nil _ _ _, .sl _ _ (by simp)⟩
    have hn' : 0 < len := by omega
    obtain ⟨y0, hy0⟩ := helem 0 hn'
    have hall : ∀ i, ∃ y : α × List Value, i < len → W.cells? 0 (a.add (i * P.cellsOf e)) (P.cellsOf e) = some y.2 ∧ Rds W (· < B) (en y.1) y.2 [] ∧ ∀ q ∈ en y.1, OkD q := by
      intro i
      by_cases hil : i < len
      · obtain ⟨y, hy⟩ := helem i hil
        exact ⟨y, fun _ => hy⟩
      · exact ⟨y0, fun h => absurd h hil⟩
    obtain ⟨f, hf⟩ := Classical.skolem.1 hall
    have hblk : a.block < B := by
      have : MemPlace.cell a.block a.off ∈ x.2 := by
        rw [hx]
        simp only [List.mem_append]
        left
        rw [MemPlace.row]
        simp only [List.mem_map, List.mem_range]
        exact ⟨0, Nat.mul_pos (by omega) hpos, by simp⟩
      exact hlt _ this
    have hspot : a.spot = none := by
      obtain ⟨_, hcl, hat⟩ := World.cells?_some hy0.1
      have h0 := hat 0 hpos
      have hcl' : 0 < y0.2.length := by rw [hcl]; exact hpos
      rw [List.getElem?_eq_getElem hcl'] at h0
      have := spot_none' h0
      simpa [Addr.add] using this
    obtain ⟨b, o, sp⟩ := a
    simp only at hspot
    subst hspot
    have hr := Rd.sl (w := W) (G := (· < B)) e ((List.range len).map fun i => en (f i).1) b o m (P.cellsOf e) (fun i j => ((f i).2[j]?).getD (.bool false)) (by simpa using hlen63) (by simpa using hl) hblk
      (fun x hx => by simp only [List.mem_map, List.mem_range] at hx; obtain ⟨i, _, rfl⟩ := hx; exact hE _)
      (fun i y j d hy hd => by
        rw [List.getElem?_map, Option.map_eq_some_iff] at hy
        obtain ⟨i', hi', rfl⟩ := hy
        have hil : i < len := by
          have := (List.getElem?_eq_some_iff.1 hi').1
          simpa using this
        rw [List.getElem?_range hil] at hi'
        obtain rfl := Option.some.inj hi'
        obtain ⟨h1, h2, h3⟩ := hf i hil
        obtain ⟨_, hcl, hat⟩ := World.cells?_some h1
        have hj : j < P.cellsOf e := by rw [← hE (f i).1]; exact (List.getElem?_eq_some_iff.1 hd).1
        have := hat j hj
        have hj2 : j < (f i).2.length := by rw [hcl]; exact hj
        rw [List.getElem?_eq_getElem hj2] at this ⊢
        have ee : ((⟨b, o, none⟩ : Addr).add (i * P.cellsOf e)).add j = ⟨b, o + i * P.cellsOf e + j, none⟩ := by
          rw [Go.Deep.add_add]
          unfold Addr.add
          split
          · rename_i h0
            rw [Nat.add_assoc, h0, Nat.add_zero]
          · rw [Nat.add_assoc]
        rw [ee] at this
        simpa using this)
      (fun i y j d hy hd => by
        rw [List.getElem?_map, Option.map_eq_some_iff] at hy
        obtain ⟨i', hi', rfl⟩ := hy
        have hil : i < len := by
          have := (List.getElem?_eq_some_iff.1 hi').1
          simpa using this
        rw [List.getElem?_range hil] at hi'
        obtain rfl := Option.some.inj hi'
        obtain ⟨h1, h2, h3⟩ := hf i hil
        obtain ⟨v, hv, hr⟩ := h2.2.2 j d hd
        rw [hv]
        exact hr)
    refine ⟨(List.range len).map fun i => (f i).1, _, rfl, ?_⟩
    have el : ((List.range len).map fun i => en (f i).1).length = len := by simp
    rw [el] at hr
    have em : eSl e en ((List.range len).map fun i => (f i).1) = .sl e ((List.range len).map fun i => en (f i).1) := by simp [eSl, Function.comp_def]
    rw [em]
    refine ⟨hr, .sl _ _ fun e he q hq => ?_⟩
    simp only [List.mem_map, List.mem_range] at he
    obtain ⟨i, hi, rfl⟩ := he
    exact (hf i hi).2.2 q hq
section
variable {α : Type} {H : Type} {enc : TypeId × Value → H} {W : World} {base : Nat} {v : Value} {d : DataW H} {p : List MemPlace}
/-- An argument that is a slice. -/
theorem openR_sl {en : α → D} {e : TypeId} (ht : P.underlying t = some (.slice e)) (hO : OpD P en t) (hv : Value.okWide P W .any base t v) (h : DataW.Trod enc P W 0 (fun _ => true) true t v d p) (hlt : ∀ x ∈ p, x.block < W.heap.size) : ∃ x : α, Rd W (· < W.heap.size) (en x) v ∧ OkD (en x) := by
  obtain ⟨a0, len, cap, rfl⟩ := okWide_slice ht hv
  obtain ⟨fuel, hf⟩ := h
  obtain ⟨x, v, e1, h2⟩ := hO hf hlt
  have e1' : [Value.slice a0 len cap] = [v] := e1
  cases e1'
  exact ⟨x, h2⟩
theorem openD_sl {en : α → D} {e : TypeId} (ht : P.underlying t = some (.slice e)) (hO : OpD P en t) (hv : Value.okWide P W .any base t v) (h : DataW.Trod enc P W 0 (fun _ => true) true t v d p) (hlt : ∀ x ∈ p, x.block < W.heap.size) : ∃ x : α, Rd W (· < W.heap.size) (en x) v := by
  obtain ⟨x, h, _⟩ := openR_sl ht hO hv h hlt
  exact ⟨x, h⟩
end
/-- From a law's contract to the law. -/
theorem law_con {f : FuncId} {xs : List X} (h : ConC P f xs (.d (.bool true))) {w : World} {vs : Array Value} (hl : vs.size = xs.length) (hr : ∀ (i : Nat) (x : X) (v : Value), xs[i]? = some x → vs[i]? = some v → XRd w (· < w.heap.size) x v) :
    Calls P f vs w fun e w' => e = .returned (.bool true) ∧ Below w.heap.size w w' := by
  refine (h.2 w vs.toList (by simpa using hl) (fun i x v hx hv => hr i x v hx (by simpa using hv))).mono ?_
  rintro e w' ⟨v, F, rfl, hres, -, -, hb⟩
  refine ⟨?_, hb⟩
  cases hres with
  | one hx => cases hx with
    | d ho =>
      obtain ⟨v', hv', hr'⟩ := ho.rd (G := fun _ => True) (fun _ _ => trivial) 0 _ rfl
      simp at hv'
      subst hv'
      cases hr'
      rfl
end
end Go.Proofs.Ytdliejnmpdodhaa
