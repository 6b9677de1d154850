/-
  Quiet operations: those that turn no slot that was there. Plain lemmas, about no function of the program.
  Conditions: those typed in each theorem.
-/
import Derived.Test.YtdliejnmpdodhaaVe
namespace Go.Proofs.Ytdliejnmpdodhaa
open Go.RowKit Go.ChangeShapes Go.WideShapes
set_option linter.unusedVariables false

def callable (P : Program) (f : FuncId) : Bool :=
  match P.funcs[f]? with
  | some fn => !(fn.name == "runtime.NumGoroutine") && fn.body.isSome
  | none => false
/-- A contract of a function that can be called. -/
def ConC (P : Program) (f : FuncId) (xs : List X) (r : X) : Prop := callable P f = true ∧ Con P f xs r
/-- A call at what its arguments present. -/
def CallA (P : Program) (f : FuncId) (xs : Option (List X)) (r : X) : Prop := ∃ ys, xs = some ys ∧ ConC P f ys r
theorem callA {P : Program} {f : FuncId} {xs : List X} {r : X} (h : ConC P f xs r) : CallA P f (some xs) r := ⟨xs, rfl, h⟩
def plainV (x : V) : Option D :=
  match x with
  | .d x => some x
  | .nil t => some (.sl t [])
  | _ => none
def plains : List V → Option (List D)
  | [] => some []
  | x :: xs => match plainV x, plains xs with
    | some d, some ds => some (d :: ds)
    | _, _ => none
/-- Values that own nothing. -/
def scalarV (x : V) : Bool :=
  match x with
  | .d (.int _ _) | .d (.bool _) | .nil _ => true
  | _ => false
def chunks {α : Type} (s : Nat) : Nat → List α → List (List α)
  | 0, _ => []
  | n + 1, xs => xs.take s :: chunks s n (xs.drop s)
/-- A literal of a slice. -/
def litV (P : Program) (σ : St) (n : Nat) (t : TypeId) (len : Nat) (ps : List (Nat × V)) : Option (V × Slot) :=
  match elemOf P t with
  | none => none
  | some e => match zeroV P e with
    | none => none
    | some z => if len * z.length ≤ 16777216 ∧ len ≤ 9223372036854775807 then
        match fillV (fun i => some (i * z.length, z.length)) (List.replicate len z).flatten ps with
        | none => none
        | some cells => match plains cells with
          | some ds => some (.ref n, .arr e (cells.all scalarV) (chunks z.length len ds))
          | none => some (.lit n len, .var e cells)
      else none

/-- What a quiet operation gives, and the slots that it makes (listed from place n on). -/
def AQ (P : Program) (st : Bool) (n : Nat) (σ : St) (o : Oper) (x : V) (news : List Slot) : Prop :=
  match o.op with
  | .alloc t => ∃ z, zeroV P t = some z ∧ x = .ptr n 0 ∧ news = [.var t z]
  | .box t y => (cellsV (σ.eval y)).all V.cell = true ∧ x = .ptr n 0 ∧ news = [.var t (cellsV (σ.eval y))]
  | .buildSlice t len ps => ∃ y, litV P σ n t len (ps.toList.map fun p => (p.1, σ.eval p.2)) = some (x, y) ∧ news = [y]
  | .makeSlice t l c => ∃ (e : TypeId) (z : List V) (zd : List D) (m : Int), elemOf P t = some e ∧ zeroV P e = some z ∧ plains z = some zd ∧ z.all scalarV = true ∧ intOf? (σ.eval l) = some m ∧ intOf? (σ.eval c) = some m ∧ 0 ≤ m ∧ m ≤ 1099511627776 ∧ P.bytesOf e ≤ 128 ∧
      x = .ref n ∧ news = [.arr e true (List.replicate m.toNat zd)]
  | .call c => match c.callee with
    | .value v => match σ.eval v with
      | .fn f caps => ∃ r, CallA P f (presAll σ.slots (c.args.toList.map σ.eval ++ caps)) r ∧ x = (inst n r).1 ∧ news = (inst n r).2
      | _ => False
    | _ => apure P st σ o = some x ∧ news = []
  | _ => apure P st σ o = some x ∧ news = []

section
variable {P : Program} {w0 : Base} {w w' : World} {φ : Hdrs} {σ : St} {a : Act} {sl : List Slot}
theorem chunks_len {α : Type} {s : Nat} : ∀ (n : Nat) (xs : List α), (chunks s n xs).length = n
  | 0, _ => rfl
  | n + 1, xs => by simp [chunks, chunks_len n]
theorem chunks_at {α : Type} {s : Nat} : ∀ {n i : Nat} {xs : List α}, i < n → (chunks s n xs)[i]? = some ((xs.drop (i * s)).take s)
  | 0, _, _, h => by omega
  | n + 1, 0, xs, _ => by simp [chunks]
  | n + 1, i + 1, xs, h => by
    simp only [chunks, List.getElem?_cons_succ]
    rw [chunks_at (by omega), List.drop_drop, Nat.succ_mul]
    congr 3
    omega
theorem plains_at : ∀ {xs : List V} {ds : List D}, plains xs = some ds → ds.length = xs.length ∧ ∀ (i : Nat) (x : V), xs[i]? = some x → ∃ d, ds[i]? = some d ∧ plainV x = some d
  | [], ds, h => by simp [plains] at h; subst h; exact ⟨rfl, fun i x hx => by simp at hx⟩
  | x :: xs, ds, h => by
    unfold plains at h
    split at h
    · rename_i d ds' h1 h2
      cases h
      obtain ⟨k1, k2⟩ := plains_at h2
      refine ⟨by simp [k1], fun i y hy => ?_⟩
      match i with
      | 0 => simp at hy; subst hy; exact ⟨d, rfl, h1⟩
      | i + 1 => simp at hy; simpa using k2 i y hy
    · cases h
theorem plain_rd {G : Nat → Prop} {x : V} {d : D} {v : Value} (h : plainV x = some d) (hx : VR w G φ sl x v) : Rd w G d v := by
  unfold plainV at h
  split at h
  · cases h; cases hx with | d h => exact h
  · cases h; cases hx; exact .nil _ _ _
  · cases h
theorem scalar_owns {G : Nat → Prop} : ∀ {xs : List V} {ds : List D} {vs : List Value}, plains xs = some ds → xs.all scalarV = true → VRs w G φ sl xs vs → Owns P w ds vs []
  | [], ds, vs, h, _, hv => by
    simp [plains] at h; subst h
    have := hv.1
    simp at this
    subst this
    exact .nil
  | x :: xs, ds, [], h, _, hv => by have := hv.1; simp at this
  | x :: xs, ds, v :: vs, h, hs, hv => by
    unfold plains at h
    split at h
    · rename_i d ds' h1 h2
      cases h
      simp only [List.all_cons, Bool.and_eq_true] at hs
      have ih := scalar_owns h2 hs.2 (vs := vs) ⟨by have := hv.1; simpa using this, fun i x v hx hv' => hv.2 (i + 1) x v (by simpa using hx) (by simpa using hv')⟩
      have h0 := (hv.2 0 x v rfl rfl).1
      have hs1 := hs.1
      unfold scalarV at hs1
      split at hs1
      · obtain rfl := h0.int; simp [plainV] at h1; subst h1; exact .int _ _ ih
      · obtain rfl := h0.bool; simp [plainV] at h1; subst h1; exact .bool _ ih
      · simp [plainV] at h1; subst h1; cases h0; exact .none _ ih
      · cases hs1
    · cases h
theorem plains_seg {xs : List V} {ds : List D} (h : plains xs = some ds) (o n : Nat) : plains ((xs.drop o).take n) = some ((ds.drop o).take n) := by
  have tk : ∀ (n : Nat) (xs : List V) (ds : List D), plains xs = some ds → plains (xs.take n) = some (ds.take n) := by
    intro n
    induction n with
    | zero => intro xs ds _; rfl
    | succ n ih =>
      intro xs ds h
      cases xs with
      | nil => simp [plains] at h; subst h; rfl
      | cons x xs =>
        unfold plains at h
        split at h
        · rename_i d ds' h1 h2
          cases h
          simp [plains, h1, ih xs ds' h2]
        · cases h
  have dr : ∀ (n : Nat) (xs : List V) (ds : List D), plains xs = some ds → plains (xs.drop n) = some (ds.drop n) := by
    intro n
    induction n with
    | zero => intro xs ds h; exact h
    | succ n ih =>
      intro xs ds h
      cases xs with
      | nil => simp [plains] at h; subst h; rfl
      | cons x xs =>
        unfold plains at h
        split at h
        · rename_i d ds' h1 h2
          cases h
          simpa using ih xs ds' h2
        · cases h
  exact tk n _ _ (dr o xs ds h)
theorem vrs_seg {G : Nat → Prop} {xs : List V} {vs : List Value} (h : VRs w G φ sl xs vs) (o n : Nat) : VRs w G φ sl ((xs.drop o).take n) ((vs.drop o).take n) := by
  refine ⟨by simp [h.1], fun i x v hx hv => ?_⟩
  rw [List.getElem?_take, List.getElem?_drop] at hx hv
  split at hx
  · rename_i hi; rw [if_pos hi] at hv; exact h.2 _ x v hx hv
  · cases hx
theorem all_seg {xs : List V} {p : V → Bool} (h : xs.all p = true) (o n : Nat) : ((xs.drop o).take n).all p = true := by
  rw [List.all_eq_true] at h ⊢
  exact fun x hx => h x (List.mem_of_mem_drop (List.mem_of_mem_take hx))
theorem plain_rds {G : Nat → Prop} {xs : List V} {ds : List D} {vs : List Value} (h : plains xs = some ds) (hv : VRs w G φ sl xs vs) : Rds w G ds vs [] := by
  obtain ⟨k1, k2⟩ := plains_at h
  refine ⟨rfl, by rw [hv.1, k1], fun i d hd => ?_⟩
  have hi : i < xs.length := by rw [← k1]; exact (List.getElem?_eq_some_iff.1 hd).1
  have hi' : i < vs.length := by rw [hv.1]; exact hi
  obtain ⟨d', h1, h2⟩ := k2 i _ (List.getElem?_eq_getElem hi)
  rw [hd] at h1
  cases h1
  exact ⟨vs[i], List.getElem?_eq_getElem hi', plain_rd h2 (hv.2 i _ _ (List.getElem?_eq_getElem hi) (List.getElem?_eq_getElem hi')).1⟩
theorem zeroV_cells {t : TypeId} {z : List V} (h : zeroV P t = some z) : P.cellsOf t = z.length := by
  obtain ⟨i, v, h1, _, _, h4, _⟩ := zeroV_some h
  simp [Program.cellsOf, h1, h4]
theorem flat_replicate_at {α : Type} : ∀ (n : Nat) (z : List α) (i : Nat), i < n * z.length → (List.replicate n z).flatten[i]? = z[i % z.length]?
  | 0, z, i, h => by omega
  | n + 1, z, i, h => by
    rw [List.replicate_succ, List.flatten_cons]
    by_cases hi : i < z.length
    · rw [List.getElem?_append_left hi, Nat.mod_eq_of_lt hi]
    · rw [List.getElem?_append_right (by omega), flat_replicate_at n z _ (by rw [Nat.succ_mul] at h; omega)]
      congr 1
      exact (Nat.mod_eq_sub_mod (by omega)).symm
theorem flat_replicate_len {α : Type} (n : Nat) (z : List α) : (List.replicate n z).flatten.length = n * z.length := by
  induction n with
  | zero => simp
  | succ n ih => rw [List.replicate_succ, List.flatten_cons, List.length_append, ih, Nat.succ_mul]; omega
theorem vrs_replicate {G : Nat → Prop} {z : List V} {vs : List Value} (h : VRs w G φ sl z vs) (n : Nat) : VRs w G φ sl (List.replicate n z).flatten (List.replicate n vs).flatten := by
  refine ⟨by rw [flat_replicate_len, flat_replicate_len, h.1], fun i x v hx hv => ?_⟩
  have hi : i < n * z.length := by rw [← flat_replicate_len]; exact (List.getElem?_eq_some_iff.1 hx).1
  rw [flat_replicate_at n z i hi] at hx
  rw [flat_replicate_at n vs i (by rw [h.1]; exact hi), h.1] at hv
  exact h.2 _ x v hx hv
theorem madeCells_list (z : Array Value) (n : Nat) : madeCells z (n * z.size) = (List.replicate n z.toList).flatten.toArray := by
  apply Array.ext'
  apply List.ext_getElem?
  intro i
  by_cases hi : i < n * z.size
  · rw [flat_replicate_at n z.toList i (by simpa using hi)]
    have h0 : 0 < z.size := by
      rcases Nat.eq_zero_or_pos z.size with h | h
      · rw [h] at hi; omega
      · exact h
    have hm : i % z.size < z.size := Nat.mod_lt _ h0
    simp only [madeCells, Array.toList_map, List.getElem?_map]
    simp [hi, hm]
  · rw [List.getElem?_eq_none (by simp [size_madeCells]; omega), List.getElem?_eq_none (by rw [flat_replicate_len]; simpa using Nat.le_of_not_lt hi)]
theorem mul_seg' {i j : Nat} (h : i < j) (s : Nat) : i * s + s ≤ j * s := by
  have h1 := Nat.mul_le_mul_right s (show i + 1 ≤ j by omega)
  rwa [Nat.succ_mul] at h1
/-- A new row of elements that own nothing, or are handed on. -/
theorem qpost_row {n len : Nat} {e : TypeId} {cells : List V} {ds : List D} {vs : List Value} (hv : VRs w (good w0.R φ sl w) φ sl cells vs) (hp : plains cells = some ds) (hl : cells.length = len * P.cellsOf e) (hlen : len ≤ 9223372036854775807) :
    QPost w0.R P n φ sl w (.ref n) [.arr e (cells.all scalarV) (chunks (P.cellsOf e) len ds)] (.slice (some ⟨w.heap.size, 0, none⟩) len len) (w.alloc (.cells vs.toArray e)) := by
  have hdl : ds.length = len * P.cellsOf e := by rw [(plains_at hp).1, hl]
  refine ⟨[(some w.heap.size, len)], [[w.heap.size]], made_one, fun φ' sl' he hpl => ⟨fun i y hd F hy hh hF => ?_, ?_⟩⟩
  · match i with
    | i + 1 => simp at hy
    | 0 =>
      simp at hy hh hF
      subst hy hh hF
      have hrow : ∀ {R : List D → List Value → List Nat → Prop}, (∀ i, i < len → R ((ds.drop (i * P.cellsOf e)).take (P.cellsOf e)) ((vs.drop (i * P.cellsOf e)).take (P.cellsOf e)) []) →
          RowOf P (w.alloc (.cells vs.toArray e)) R e (chunks (P.cellsOf e) len ds) (some w.heap.size) len [w.heap.size] := by
        intro R hR
        refine ⟨hlen, by rw [chunks_len]; exact Nat.le_refl _, .inr ⟨w.heap.size, vs.toArray, List.replicate len [], rfl, heap_alloc_new w _, by simp [hv.1, hl], by simp [chunks_len], fun e' he' => ?_, fun i e' f h1 h2 => ?_, ?_⟩⟩
        · obtain ⟨i, hi, rfl⟩ := List.mem_iff_getElem.1 he'
          have hil : i < len := by rw [chunks_len] at hi; exact hi
          have hc := chunks_at (s := P.cellsOf e) (xs := ds) hil
          rw [List.getElem?_eq_getElem hi] at hc
          rw [Option.some.inj hc]
          have := mul_seg' hil (P.cellsOf e)
          simp [hdl]
          omega
        · have hil : i < len := by have := (List.getElem?_eq_some_iff.1 h1).1; rw [chunks_len] at this; exact this
          rw [chunks_at hil] at h1
          rw [List.getElem?_replicate, if_pos hil] at h2
          cases h1
          cases h2
          simpa using hR i hil
        · have : ∀ k : Nat, (List.replicate k ([] : List Nat)).flatten = [] := fun k => by induction k with | zero => rfl | succ k ih => simp [List.replicate_succ, ih]
          rw [this]
      cases hs : cells.all scalarV with
      | true => exact hrow fun i hi => (scalar_owns (P := P) (plains_seg hp _ _) (all_seg hs _ _) (vrs_seg hv _ _)).stay (by simp)
      | false => exact hrow fun i hi => (plain_rds (plains_seg hp _ _) (vrs_seg hv _ _)).mono he.hk
  · obtain ⟨h1, h2⟩ := hpl 0 (by simp)
    have := VR.ref (w := w.alloc (.cells vs.toArray e)) (G := good w0.R φ' sl' (w.alloc (.cells vs.toArray e))) (by simpa using h1) (by simpa using h2)
    rw [chunks_len] at this
    exact this
theorem wp_value {o : Oper} {v : Value} {K : Act → World → Prop} {Q : Exit → Act → World → Prop} (h : (execOp a.eval o).run P w = .ok (.value v) w') (k : K (a.put o.dst v) w') : o.wp P a w K Q := by
  unfold Oper.wp
  rw [h]
  exact k
theorem run_zero {t : TypeId} {z : List V} (h : zeroV P t = some z) : ∃ v : Value, (zeroValue t).run P w = .ok v w ∧ cellsOk z v.cells.toList = true ∧ v.cells.size = z.length := by
  obtain ⟨i, v, h1, h2, h3, h4, h5, _⟩ := zeroV_some h
  exact ⟨v, by simp [zeroValue, typeInfo, h1, h2], h3, by omega⟩
theorem run_call_fn {f : FuncId} (h : callable P f = true) (args : Array Value) : (callFunc f args).run P w = .ok (.enter f args) w := by
  unfold callable at h
  split at h
  · rename_i fn hf
    simp at h
    simp [callFunc, hf, h.1]
    intro hb
    simp [hb] at h
  · cases h
theorem litV_some {n len : Nat} {t : TypeId} {ps : List (Nat × V)} {x : V} {y : Slot} (h : litV P σ n t len ps = some (x, y)) : ∃ e z cells, elemOf P t = some e ∧ zeroV P e = some z ∧ len * z.length ≤ 16777216 ∧ len ≤ 9223372036854775807 ∧ fillV (fun i => some (i * z.length, z.length)) (List.replicate len z).flatten ps = some cells ∧
    ((∃ ds, plains cells = some ds ∧ x = .ref n ∧ y = .arr e (cells.all scalarV) (chunks z.length len ds)) ∨ (x = .lit n len ∧ y = .var e cells)) := by
  unfold litV at h
  split at h
  · cases h
  rename_i e he
  split at h
  · cases h
  rename_i z hz
  split at h
  · rename_i hle
    split at h
    · cases h
    rename_i cells hc
    refine ⟨e, z, cells, he, hz, hle.1, hle.2, hc, ?_⟩
    split at h
    · rename_i ds hd
      cases h
      exact .inl ⟨ds, hd, rfl, rfl⟩
    · cases h
      exact .inr ⟨rfl, rfl⟩
  · cases h
theorem fillV_len {place : Nat → Option (Nat × Nat)} : ∀ {ps : List (Nat × V)} {xs ys : List V}, fillV place xs ps = some ys → ys.length = xs.length
  | [], xs, ys, h => by simp [fillV] at h; rw [h]
  | (f, x) :: ps, xs, ys, h => by
    unfold fillV at h
    split at h
    · cases h
    split at h
    · rename_i hc
      rw [fillV_len h, putAt_length (by omega)]
    · cases h
theorem run_buildSlice {t e : TypeId} {len : Nat} {z cells : List V} {ps : Array (Nat × Operand)} {f : Operand → V} {g : Operand → Value} {G : Nat → Prop} (ht : elemOf P t = some e) (hz : zeroV P e = some z) (hl : len * z.length ≤ 16777216)
    (hc : fillV (fun i => some (i * z.length, z.length)) (List.replicate len z).flatten (ps.toList.map fun p => (p.1, f p.2)) = some cells) (hv : ∀ x, VR w G φ sl (f x) (g x)) :
    ∃ us, (Instr.buildSlice t len (ps.map fun (i, x) => (i, g x))).run P w = .ok (.slice (some ⟨w.heap.size, 0, none⟩) len len) (w.alloc (.cells us.toArray e)) ∧ VRs w G φ sl cells us := by
  obtain ⟨i, v, h1, h2, h3, h4, h5, _⟩ := zeroV_some hz
  have hcz := zeroV_cells hz
  obtain ⟨us, hu, hr⟩ := fill_sound (w := w) (φ := φ) (G := G) (sl := sl) (place' := fun i => some (i * z.length, z.length)) (fun f p hp => hp) (qs := ps.toList.map fun p => (p.1, g p.2)) hc (vrs_replicate (cellsOk_vr h3) len) (by simp) (fun i p q hp hq => by
      rw [List.getElem?_map, Option.map_eq_some_iff] at hp hq
      obtain ⟨a, ha, rfl⟩ := hp
      obtain ⟨b, hb, rfl⟩ := hq
      rw [ha] at hb
      cases hb
      exact ⟨rfl, hv _⟩)
  refine ⟨us, ?_, hr⟩
  have hi : P.info? e = some i := h1
  have hmade : madeCells v.cells (len * v.cells.size) = (List.replicate len v.cells.toList).flatten.toArray := madeCells_list _ _
  have hsz : i.size = z.length := h4
  have hle : ¬ len * z.length > 2 ^ 24 := by omega
  have hparts : (ps.map fun (i, x) => (i, g x)).toList = ps.toList.map fun p => (p.1, g p.2) := by simp
  unfold Instr.buildSlice
  have hzv : (zeroValue e).run P w = .ok v w := by simp [zeroValue, typeInfo, h1, h2]
  simp only [Sem.run_bind, run_underlying (elemOf_some ht), Result.andThen_ok, run_sizeOf w hi, hcz, hle, if_false]
  by_cases h0 : len * z.length = 0
  · have hnil : (List.replicate len v.cells.toList).flatten.toArray = #[] := by
      have : (List.replicate len v.cells.toList).flatten = [] := List.eq_nil_of_length_eq_zero (by rw [flat_replicate_len, Array.length_toList, h5, hsz]; exact h0)
      rw [this]
    rw [hnil] at hu
    have hu' := hu
    rw [← hparts] at hu'
    simp at hu'
    have hz0 : Array.map (fun _ => (default : Value)) (Array.range 0) = #[] := by apply Array.ext' ; simp
    simp [h0, hz0, hu', newRow]
  · have hm2 : (Array.range (len * z.length)).map (fun x => v.cells[x % v.cells.size]!) = (List.replicate len v.cells.toList).flatten.toArray := by
      rw [← hmade]
      unfold madeCells
      rw [h5, hsz]
    have hu' := hu
    rw [← hparts, ← hm2] at hu'
    simp at hu'
    simp [h0, hzv, hu', newRow]
theorem plains_append : ∀ {xs ys : List V} {ds es : List D}, plains xs = some ds → plains ys = some es → plains (xs ++ ys) = some (ds ++ es)
  | [], ys, ds, es, h, h' => by simp [plains] at h; subst h; exact h'
  | x :: xs, ys, ds, es, h, h' => by
    unfold plains at h
    split at h
    · rename_i d ds' h1 h2
      cases h
      simp [plains, h1, plains_append h2 h']
    · cases h
theorem plains_replicate {z : List V} {zd : List D} (h : plains z = some zd) : ∀ n : Nat, plains (List.replicate n z).flatten = some (List.replicate n zd).flatten
  | 0 => rfl
  | n + 1 => by rw [List.replicate_succ, List.flatten_cons, List.replicate_succ, List.flatten_cons]; exact plains_append h (plains_replicate h n)
theorem chunks_replicate {α : Type} {s : Nat} {z : List α} (h : z.length = s) : ∀ {n : Nat}, chunks s n (List.replicate n z).flatten = List.replicate n z
  | 0 => rfl
  | n + 1 => by
    subst h
    rw [List.replicate_succ, List.flatten_cons, chunks, List.take_left', List.drop_left', chunks_replicate rfl] <;> rfl
theorem all_replicate {z : List V} {p : V → Bool} (h : z.all p = true) {n : Nat} : (List.replicate n z).flatten.all p = true := by
  rw [List.all_eq_true] at h ⊢
  intro x hx
  obtain ⟨l, hl, hx⟩ := List.mem_flatten.1 hx
  rw [(List.mem_replicate.1 hl).2] at hx
  exact h x hx
theorem VR.fnv {G : Nat → Prop} {f : FuncId} {xs : List V} {v : Value} (h : VR w G φ sl (.fn f xs) v) : ∃ us : List Value, v = .func (.func f) #[] us.toArray ∧ us.length = xs.length ∧ ∀ (i : Nat) (x : V) (u : Value), xs[i]? = some x → us[i]? = some u → VR w G φ sl x u := by
  cases h with
  | fn hl h => exact ⟨_, rfl, hl, h⟩
theorem args_vr (hr : Rel P w0 φ σ a w) {args : Array Operand} {caps : List V} {us : List Value} (hl : us.length = caps.length) (h : ∀ (i : Nat) (x : V) (u : Value), caps[i]? = some x → us[i]? = some u → VR w (good w0.R φ σ.slots w) φ σ.slots x u) :
    ∀ (i : Nat) (x : V) (v : Value), (args.toList.map σ.eval ++ caps)[i]? = some x → (args.toList.map a.eval ++ us)[i]? = some v → VR w (good w0.R φ σ.slots w) φ σ.slots x v := by
  intro i x v hx hv
  by_cases hi : i < args.toList.length
  · rw [List.getElem?_append_left (by simpa using hi), List.getElem?_map, Option.map_eq_some_iff] at hx hv
    obtain ⟨p, hp, rfl⟩ := hx
    obtain ⟨q, hq, rfl⟩ := hv
    rw [hp] at hq
    cases hq
    exact hr.eval p
  · rw [List.getElem?_append_right (by simpa using hi)] at hx hv
    simp only [List.length_map] at hx hv
    exact h _ x v hx hv
theorem run_call_value {o : Oper} {c : Call} {y : Operand} {f : FuncId} {us : List Value} (ho : o.op = .call c) (hf : c.callee = .value y) (hus : a.eval y = .func (.func f) #[] us.toArray) (h2 : callable P f = true) :
    (execOp a.eval o).run P w = .ok (.enter f (c.args.toList.map a.eval ++ us).toArray) w := by
  have hargs : c.args.map a.eval ++ us.toArray = (c.args.toList.map a.eval ++ us).toArray := by apply Array.ext'; simp
  rw [← hargs]
  simp [execOp, ho, resolve, hf, hus, Deferred.ofValue, invoke, run_call_fn h2]
theorem aq_sound {st : Bool} (hst : w0.st = st) {n : Nat} {o : Oper} {x : V} {news : List Slot} (h : AQ P st n σ o x news) (hr : Rel P w0 φ σ a w) {K : Act → World → Prop} {Q : Exit → Act → World → Prop} (hK : ∀ v w', QPost w0.R P n φ σ.slots w x news v w' → K (a.put o.dst v) w') : o.wp P a w K Q := by
  obtain ⟨Fs, hm⟩ := hr.mem
  have pure : apure P st σ o = some x ∧ news = [] → o.wp P a w K Q := by
    rintro ⟨h1, rfl⟩
    obtain ⟨v, h2, h3⟩ := apure_sound hst h1 hr
    exact wp_value h2 (hK v w (qpost_pure h3))
  unfold AQ at h
  split at h
  · rename_i t ho
    obtain ⟨z, h1, rfl, rfl⟩ := h
    obtain ⟨v, h2, h3, h4⟩ := run_zero (w := w) h1
    have hrun : (execOp a.eval o).run P w = .ok (.value (.pointer (some ⟨w.heap.size, 0, none⟩))) (w.alloc (.cells v.cells t)) := by
      simp [execOp, ho, Instr.alloc, h2, newVar, newRow]
    refine wp_value hrun (hK _ _ ?_)
    have := qpost_var (P := P) (n := n) (t := t) (cellsOk_vr (w := w) (φ := φ) (G := good w0.R φ σ.slots w) (sl := σ.slots) h3) (.ptr n 0) (.pointer (some ⟨w.heap.size, 0, none⟩)) (fun φ' sl' w' k1 k2 => .ptr k1 trivial k2)
    simpa using this
  · rename_i t y ho
    obtain ⟨h1, rfl, rfl⟩ := h
    have hrun : (execOp a.eval o).run P w = .ok (.value (.pointer (some ⟨w.heap.size, 0, none⟩))) (w.alloc (.cells (a.eval y).cells t)) := by
      simp [execOp, ho, Instr.box, newVar, newRow]
    refine wp_value hrun (hK _ _ ?_)
    have := qpost_var (P := P) (n := n) (t := t) ((hr.eval y).cells h1) (.ptr n 0) (.pointer (some ⟨w.heap.size, 0, none⟩)) (fun φ' sl' w' k1 k2 => .ptr k1 trivial k2)
    simpa using this
  · rename_i t len ps ho
    obtain ⟨y, h1, rfl⟩ := h
    obtain ⟨e, z, cells, h2, h3, h4, hl, h5, h6⟩ := litV_some h1
    obtain ⟨us, h7, h8⟩ := run_buildSlice (w := w) (φ := φ) (sl := σ.slots) (G := good w0.R φ σ.slots w) (g := a.eval) h2 h3 h4 h5 (fun x => hr.eval x)
    have hrun : (execOp a.eval o).run P w = .ok (.value (.slice (some ⟨w.heap.size, 0, none⟩) len len)) (w.alloc (.cells us.toArray e)) := by
      simp at h7
      simp [execOp, ho, h7]
    refine wp_value hrun (hK _ _ ?_)
    have hcl : cells.length = len * P.cellsOf e := by rw [fillV_len h5, flat_replicate_len, zeroV_cells h3]
    rcases h6 with ⟨ds, k1, rfl, rfl⟩ | ⟨rfl, rfl⟩
    · rw [← zeroV_cells h3]
      refine qpost_row h8 k1 hcl hl
    · exact qpost_var h8 _ _ (fun φ' sl' w' k1 k2 => .lit k1 k2)
  · rename_i t l c ho
    obtain ⟨e, z, zd, m, h1, h2, h3, h4, h5, h6, h7, h8, h9, rfl, rfl⟩ := h
    obtain ⟨i, v, k1, k2, k3, k4, k5, _⟩ := zeroV_some h2
    obtain ⟨kl, hl⟩ : ∃ k, a.eval l = .int k m := by
      unfold intOf? at h5
      split at h5
      · rename_i k m' hk
        cases h5
        have := hr.eval l
        rw [hk] at this
        exact ⟨k, this.int⟩
      · cases h5
    obtain ⟨kc, hc⟩ : ∃ k, a.eval c = .int k m := by
      unfold intOf? at h6
      split at h6
      · rename_i k m' hk
        cases h6
        have := hr.eval c
        rw [hk] at this
        exact ⟨k, this.int⟩
      · cases h6
    have hby : i.bytes ≤ 128 := by simpa [Program.bytesOf, k1] using h9
    have hb1 : (i.bytes : Int) * m ≤ 128 * 1099511627776 := Int.mul_le_mul (by omega) h8 h7 (by omega)
    have hmk := run_make (P := P) (w := w) t e i v (elemOf_some h1) k1 k2 kl kc m m h7 (Int.le_refl _) (by omega) (by omega)
    rw [← k5, madeCells_list] at hmk
    have hrun : (execOp a.eval o).run P w = .ok (.value (.slice (some ⟨w.heap.size, 0, none⟩) m.toNat m.toNat)) (w.alloc (.cells (List.replicate m.toNat v.cells.toList).flatten.toArray e)) := by
      simp [execOp, ho, hl, hc, hmk]
    refine wp_value hrun (hK _ _ ?_)
    have hvz := cellsOk_vr (w := w) (φ := φ) (G := good w0.R φ σ.slots w) (sl := σ.slots) k3
    have := qpost_row (P := P) (n := n) (len := m.toNat) (e := e) (vrs_replicate hvz m.toNat) (plains_replicate h3 m.toNat) (by rw [flat_replicate_len, zeroV_cells h2]) (by omega)
    rw [chunks_replicate (by rw [zeroV_cells h2]; exact (plains_at h3).1), all_replicate h4] at this
    exact this
  · rename_i c ho
    split at h
    · rename_i y hf
      split at h
      · rename_i f caps hy
        obtain ⟨r, ⟨xs, h1, h2, h3⟩, rfl, rfl⟩ := h
        have hv := hr.eval y
        rw [hy] at hv
        obtain ⟨us, hus, hul, huv⟩ := hv.fnv
        obtain ⟨k1, k2⟩ := presAll_sound hm h1 (vs := c.args.toList.map a.eval ++ us) (by simp [hul]) (args_vr hr hul huv)
        have hrun := run_call_value (w := w) (a := a) (o := o) (c := c) ho hf hus h2
        unfold Oper.wp
        rw [hrun]
        refine (h3 w _ k1 k2).mono ?_
        rintro e w' ⟨v, F, rfl, q1, q2, q3, q4⟩
        exact hK v w' (qpost_res q1 q2 q3 q4)
      · exact h.elim
    · exact pure h
  · exact pure h
end
end Go.Proofs.Ytdliejnmpdodhaa
