/-
  Appends to slots. Plain lemmas, about no function of the program.
  Conditions: those typed in each theorem.
-/
import Derived.Test.YtdliejnmpdodhaaVi
namespace Go.Proofs.Ytdliejnmpdodhaa
open Go.RowKit Go.ChangeShapes Go.WideShapes
set_option linter.unusedVariables false

/-- Elements that own nothing. -/
def flatP (es : List (List D)) : Prop := ∀ c ∈ es, ∀ d ∈ c, flatD d = true
/-- What an append goes onto: is all owned; the elements; the slots that die. -/
def baseV (sl : List Slot) (e : TypeId) (x : V) : Option (Bool × List (List D) × List Nat) :=
  match x with
  | .nil _ => some (true, [], [])
  | .ref s => match sl[s]? with
    | some (.arr t ow es) => if t = e then some (ow, es, [s]) else none
    | _ => none
  | _ => none
/-- What is appended: its elements; its slot. -/
def srcV (sl : List Slot) (y : V) : Option (List (List D) × Option Nat) :=
  match y with
  | .nil _ => some ([], none)
  | .d (.sl _ es) => some (es, none)
  | .ref s => match sl[s]? with
    | some (.arr _ _ es) => some (es, some s)
    | _ => none
  | _ => none
def maxPush : Nat := 1099511627776
/-- An append. K: what goes on, over the result and the slots. -/
def AApp4 (P : Program) (sl : List Slot) (t : TypeId) (x y : V) (K : V → List Slot → Prop) : Prop :=
  ∃ e ow es ks, elemOf P t = some e ∧ baseV sl e x = some (ow, es, ks) ∧ (zeroV P e).isSome = true ∧ P.cellsOf e ≠ 0 ∧ P.bytesOf e ≤ 128 ∧
    ((∃ es2 o, srcV sl y = some (es2, o) ∧ (∀ s, o = some s → s ∉ ks) ∧ (∀ c ∈ es2, c.length = P.cellsOf e) ∧ es.length + es2.length ≤ maxPush ∧ (ow = true → flatP es2) ∧ K (.ref sl.length) (kill ks sl ++ [.arr e ow (es ++ es2)])) ∨
     (∃ s2 es2, y = .ref s2 ∧ sl[s2]? = some (.arr e true es2) ∧ s2 ∉ ks ∧ ow = true ∧ es.length + es2.length ≤ maxPush ∧ K (.ref sl.length) (kill (s2 :: ks) sl ++ [.arr e true (es ++ es2)])) ∨
     (∃ s2 n cells ds ks2, y = .lit s2 n ∧ sl[s2]? = some (.var e cells) ∧ takeC sl cells = some (ds, ks2) ∧ (∀ k ∈ ks2, k ∉ ks) ∧ cells.length = n * P.cellsOf e ∧ ow = true ∧ es.length + n ≤ maxPush ∧
        K (.ref sl.length) (kill (s2 :: (ks ++ ks2)) sl ++ [.arr e true (es ++ chunks (P.cellsOf e) n ds)])) ∨
     (∃ es2 o, srcV sl y = some (es2, o) ∧ (∀ s, o = some s → s ∉ ks) ∧ (∀ c ∈ es2, c.length = P.cellsOf e) ∧ es.length + es2.length ≤ maxPush ∧ K (.ref sl.length) (kill ks sl ++ [.arr e false (es ++ es2)])))

/-- An append; what is appended may become data that stay. -/
def AAppend (P : Program) (st : Bool) (sl : List Slot) (t : TypeId) (x y : V) (K : V → List Slot → Prop) : Prop :=
  st = false ∧ (AApp4 P sl t x y K ∨ ∃ d ks, freezeV P sl y = some (d, ks) ∧ AApp4 P (kill ks sl) t x (.d d) K)

section
variable {P : Program} {w0 : Base} {w w' : World} {φ φ' : Hdrs} {σ : St} {a : Act} {sl sl' : List Slot} {Fs Fs' : List (List Nat)}
theorem turn_push (hm : MemR P w0 φ sl w Fs) {ks : List Nat} (hks : ks.Nodup) (hkv : ∀ k ∈ ks, ∃ x, sl[k]? = some x ∧ x.live) {A A' : Option Nat} (hA : ∀ g, A = some g → ∃ s ∈ ks, ∃ c, φ[s]? = some (some g, c)) {c' : Nat} {F' : List Nat} {y : Slot}
    (hO : Only A.toList w w') (hA' : ∀ g, A' = some g → A = some g ∨ g = w.heap.size) (hsr : ∀ φ' sl', Ext w0.R φ sl w φ' sl' w' → SR P w' (good w0.R φ' sl' w') φ' sl' y (A', c') F') (hc : ∀ q, F'.count q ≤ (ofSlots Fs ks).count q + (if q = w.heap.size then 1 else 0)) :
    Turn P w0 φ sl w (φ ++ [(A', c')]) (kill ks sl ++ [y]) w' := by
  have hkl : ∀ k ∈ ks, k < sl.length := fun k hk => by obtain ⟨_, h, _⟩ := hkv k hk; exact (List.getElem?_eq_some_iff.1 h).1
  have hkn : (kill ks sl).length = sl.length := kill_len _ _
  have hat : ∀ {k : Nat} {x : Slot}, (kill ks sl ++ [y])[k]? = some x → (k ∈ ks ∧ x = .dead) ∨ (k ∉ ks ∧ sl[k]? = some x) ∨ (k = sl.length ∧ x = y) := by
    intro k x hx
    by_cases hk : k < sl.length
    · rw [List.getElem?_append_left (by omega), kill_at] at hx
      by_cases hkk : k ∈ ks
      · rw [if_pos ⟨hkk, hk⟩] at hx; cases hx; exact .inl ⟨hkk, rfl⟩
      · rw [if_neg (fun h => hkk h.1)] at hx; exact .inr (.inl ⟨hkk, hx⟩)
    · rw [List.getElem?_append_right (by omega), hkn] at hx
      have := (List.getElem?_eq_some_iff.1 hx).1
      simp at this
      have h0 : k - sl.length = 0 := by omega
      rw [h0] at hx
      cases hx
      exact .inr (.inr ⟨by omega, rfl⟩)
  have hpl : ∀ {k : Nat}, k < sl.length → (φ ++ [(A', c')])[k]? = φ[k]? := fun hk => List.getElem?_append_left (by rw [hm.flen]; exact hk)
  have hph : (φ ++ [(A', c')])[sl.length]? = some (A', c') := by rw [List.getElem?_append_right (by rw [hm.flen]; exact Nat.le_refl _), hm.flen]; simp
  have hAtop : ∀ g, A = some g → top φ sl g := fun g hg => by
    obtain ⟨s, hs, c, hp⟩ := hA g hg
    obtain ⟨x, hx, hl⟩ := hkv s hs
    exact ⟨s, x, c, hx, hl, hp⟩
  have hS : ∀ b ∈ A.toList, top φ sl b ∨ w.heap.size ≤ b := fun b hb => .inl (hAtop b (by simpa using hb))
  have hT : ∀ b, top (φ ++ [(A', c')]) (kill ks sl ++ [y]) b → w.heap.size ≤ b ∨ top φ sl b := by
    rintro b ⟨s2, x2, c2, q1, q2, q3⟩
    rcases hat q1 with ⟨_, rfl⟩ | ⟨_, q1⟩ | ⟨rfl, rfl⟩
    · exact q2.elim
    · rw [hpl (List.getElem?_eq_some_iff.1 q1).1] at q3
      exact .inr ⟨s2, x2, c2, q1, q2, q3⟩
    · rw [hph] at q3
      cases q3
      rcases hA' b rfl with h | h
      · exact .inr (hAtop b h)
      · exact .inl (by omega)
  have hlt : ∀ (k : Nat) (x : Slot), sl[k]? = some x → ∃ x', (kill ks sl ++ [y])[k]? = some x' ∧ Later x x' := by
    intro k x hx
    have hkl' := (List.getElem?_eq_some_iff.1 hx).1
    rw [List.getElem?_append_left (by omega), kill_at]
    by_cases hk : k ∈ ks
    · rw [if_pos ⟨hk, hkl'⟩]
      obtain ⟨x2, h4, h5⟩ := hkv k hk
      rw [hx] at h4
      cases h4
      refine ⟨_, rfl, ?_⟩
      cases x <;> first | exact h5.elim | trivial
    · rw [if_neg (fun h => hk h.1)]
      exact ⟨x, hx, Later.refl x⟩
  have hp : ∀ (s : Nat) (h : Option Nat × Nat), φ[s]? = some h → sl[s]? ≠ some .unborn → (φ ++ [(A', c')])[s]? = some h := fun s h hh _ => by rw [List.getElem?_append_left (List.getElem?_eq_some_iff.1 hh).1]; exact hh
  have he : Ext w0.R φ sl w (φ ++ [(A', c')]) (kill ks sl ++ [y]) w' := ⟨good_mono hO hS hT, hlt, hp⟩
  have hkF : ∀ k ∈ ks, k < Fs.length := fun k hk => by rw [hm.Flen]; exact hkl k hk
  have hcnt : ∀ q, cnt q (killF ks Fs ++ [F']) ≤ cnt q Fs + (if q = w.heap.size then 1 else 0) := by
    intro q
    have h1 := cnt_killF q hks hkF
    have h2 := hc q
    simp only [cnt, List.flatten_append, List.count_append, List.flatten_cons, List.flatten_nil, List.append_nil] at h1 ⊢
    omega
  refine hm.turn (Fs' := killF ks Fs ++ [F']) hO hS (by simp [hm.flen, hkn]) (by simp [killF_len, hm.Flen, hkn]) ?_ (fun q hq => ?_) hlt hp hT (fun k x h F2 q1 q2 q3 => ?_)
  · rw [List.nodup_iff_count]
    intro q
    have h1 := hcnt q
    have h2 := List.nodup_iff_count.1 hm.nd q
    simp only [cnt] at h1
    by_cases hq : q = w.heap.size
    · have h3 : Fs.flatten.count q = 0 := List.count_eq_zero.2 fun h => by have := hm.lt q h; omega
      rw [if_pos hq] at h1
      omega
    · rw [if_neg hq] at h1
      omega
  · have h1 := hcnt q
    have h2 := List.count_pos_iff.2 hq
    by_cases hq2 : q = w.heap.size
    · have := hm.only.size; exact .inr (by omega)
    · rw [if_neg hq2] at h1
      exact hm.ge q (List.count_pos_iff.1 (by simp only [cnt] at h1; omega))
  · rcases hat q1 with ⟨hk, rfl⟩ | ⟨hk, q1⟩ | ⟨rfl, rfl⟩
    · have hkl' := hkl k hk
      rw [List.getElem?_append_left (by rw [killF_len, hm.Flen]; exact hkl'), killF_at, if_pos ⟨hk, hkF k hk⟩] at q3
      cases q3
      exact .inr rfl
    · have hkl' := (List.getElem?_eq_some_iff.1 q1).1
      rw [hpl hkl'] at q2
      rw [List.getElem?_append_left (by rw [killF_len, hm.Flen]; exact hkl'), killF_at, if_neg (fun h => hk h.1)] at q3
      refine .inl ⟨q1, q2, q3, fun b hb hb2 => ?_⟩
      have hbA : A = some b := by simpa using hb2
      obtain ⟨s, hs, c, hps⟩ := hA b hbA
      obtain ⟨x2, hx2, hl2⟩ := hkv s hs
      obtain ⟨hd, F3, k4, k5, k6⟩ := hm.at_ hx2
      rw [hps] at k4
      cases k4
      exact flat_disj hm.nd q3 k5 (fun e => hk (e ▸ hs)) b hb (k6.head hl2)
    · rw [hph] at q2
      cases q2
      rw [List.getElem?_append_right (by rw [killF_len, hm.Flen]; exact Nat.le_refl _), killF_len, hm.Flen] at q3
      simp at q3
      subst q3
      exact .inr (hsr _ _ he)

/-! ### The source's cells -/
theorem run_append_none {t ty e : TypeId} {A : Option Nat} {n c c2 : Nat} (ht : elemOf P t = some e) (hz0 : P.cellsOf e ≠ 0) (hc : n ≤ c) (ho : A = none → n = 0) :
    (Builtin.append_ #[t, t] ty #[.slice (hdr A) n c, .slice none 0 c2]).run P w = .ok (.slice (hdr A) n c) w := by
  cases A with
  | none => simp [Builtin.append_, run_underlying (elemOf_some ht), run_sizeOf0 hz0, Builtin.lenOf, Builtin.firstCells, hc]
  | some g => simp [Builtin.append_, run_underlying (elemOf_some ht), run_sizeOf0 hz0, Builtin.lenOf, Builtin.firstCells, hc, storeCells]
theorem owns_flat {G : Nat → Prop} : ∀ {ds : List D} {vs : List Value}, (∀ d ∈ ds, flatD d = true) → vs.length = ds.length → (∀ (i : Nat) (d : D), ds[i]? = some d → ∃ v, vs[i]? = some v ∧ Rd w G d v) → Owns P w ds vs []
  | [], [], _, _, _ => .nil
  | [], _ :: _, _, h, _ => by simp at h
  | _ :: _, [], _, h, _ => by simp at h
  | d :: ds, v :: vs, hf, hl, hr => by
    have ih := owns_flat (ds := ds) (vs := vs) (fun d hd => hf d (by simp [hd])) (by simpa using hl) (fun i d hd => hr (i + 1) d (by simpa using hd))
    obtain ⟨u, hu, h0⟩ := hr 0 d rfl
    simp at hu
    subst hu
    have := hf d (by simp)
    cases h0 with
    | int k x => exact .int k x ih
    | bool b => exact .bool b ih
    | nil => simp [flatD] at this
    | sl => simp [flatD] at this
/-- The elements of what is appended lie somewhere, and can be read. -/
theorem src_cells (hst : w0.st = false) (hm : MemR P w0 φ sl w Fs) {e : TypeId} {y : V} {v : Value} {es2 : List (List D)} {o : Option Nat} (h : srcV sl y = some (es2, o)) (hel : ∀ c ∈ es2, c.length = P.cellsOf e) (hy : VR w (good w0.R φ sl w) φ sl y v) :
    (∃ c2, v = .slice none 0 c2 ∧ es2 = []) ∨ ∃ (ad : Addr) (c2 : Nat) (news : List Value), v = .slice (some ad) es2.length c2 ∧ news.length = es2.length * P.cellsOf e ∧ (∀ j u, news[j]? = some u → w.cell? (ad.add j) = some u) ∧
      ∀ i x, es2[i]? = some x → Rds w (good w0.R φ sl w) x ((news.drop (i * P.cellsOf e)).take (P.cellsOf e)) [] := by
  have lay : ∀ (b off : Nat) (u : Nat → Nat → Value) (c2 : Nat), (∀ i x j d, es2[i]? = some x → x[j]? = some d → w.cell? ⟨b, off + i * P.cellsOf e + j, none⟩ = some (u i j)) → (∀ i x j d, es2[i]? = some x → x[j]? = some d → Rd w (good w0.R φ sl w) d (u i j)) →
      v = .slice (some ⟨b, off, none⟩) es2.length c2 → ∃ (ad : Addr) (c2 : Nat) (news : List Value), v = .slice (some ad) es2.length c2 ∧ news.length = es2.length * P.cellsOf e ∧ (∀ j u, news[j]? = some u → w.cell? (ad.add j) = some u) ∧
      ∀ i x, es2[i]? = some x → Rds w (good w0.R φ sl w) x ((news.drop (i * P.cellsOf e)).take (P.cellsOf e)) [] := by
    intro b off u c2 hc hr hv
    by_cases hs : P.cellsOf e = 0
    · refine ⟨_, c2, [], hv, by simp [hs], by simp, fun i x hx => ⟨rfl, ?_, fun j d hd => ?_⟩⟩
      · have := hel x (List.mem_of_getElem? hx); simp [hs] at this ⊢; simp [this]
      · have := hel x (List.mem_of_getElem? hx); rw [hs] at this; have := List.eq_nil_of_length_eq_zero this; subst this; simp at hd
    have hs0 : 0 < P.cellsOf e := Nat.pos_of_ne_zero hs
    have hcell : ∀ k, k < es2.length * P.cellsOf e → w.cell? ⟨b, off + k, none⟩ = some (u (k / P.cellsOf e) (k % P.cellsOf e)) := by
      intro k hk
      have hi : k / P.cellsOf e < es2.length := Nat.div_lt_of_lt_mul (by rw [Nat.mul_comm]; exact hk)
      have hj : k % P.cellsOf e < P.cellsOf e := Nat.mod_lt _ hs0
      have hx : es2[k / P.cellsOf e]? = some es2[k / P.cellsOf e] := List.getElem?_eq_getElem hi
      have hxl := hel _ (List.getElem_mem hi)
      have hd : (es2[k / P.cellsOf e])[k % P.cellsOf e]? = some ((es2[k / P.cellsOf e])[k % P.cellsOf e]'(by omega)) := List.getElem?_eq_getElem _
      have := hc _ _ _ _ hx hd
      rw [← this, Nat.add_assoc, Nat.mul_comm, Nat.div_add_mod]
    refine ⟨_, c2, (List.range (es2.length * P.cellsOf e)).map fun k => u (k / P.cellsOf e) (k % P.cellsOf e), hv, by simp, fun j u' hu => ?_, fun i x hx => ?_⟩
    · rw [List.getElem?_map, Option.map_eq_some_iff] at hu
      obtain ⟨k, hk, rfl⟩ := hu
      obtain ⟨hlt, rfl⟩ := List.getElem?_eq_some_iff.1 hk
      simp only [List.length_range] at hlt
      rw [add_none, List.getElem_range]
      exact hcell j hlt
    · have hil := (List.getElem?_eq_some_iff.1 hx).1
      have hseg := mul_seg' hil (P.cellsOf e)
      have hxl := hel x (List.mem_of_getElem? hx)
      refine ⟨rfl, by simp; omega, fun j d hd => ?_⟩
      have hj : j < P.cellsOf e := by rw [← hxl]; exact (List.getElem?_eq_some_iff.1 hd).1
      refine ⟨u i j, ?_, hr i x j d hx hd⟩
      rw [List.getElem?_take, if_pos hj, List.getElem?_drop, List.getElem?_map, List.getElem?_range (by omega)]
      have e1 : (i * P.cellsOf e + j) / P.cellsOf e = i := by rw [Nat.mul_comm, Nat.mul_add_div hs0, Nat.div_eq_of_lt hj]; omega
      have e2 : (i * P.cellsOf e + j) % P.cellsOf e = j := by rw [Nat.mul_comm, Nat.mul_add_mod, Nat.mod_eq_of_lt hj]
      simp [e1, e2]
  unfold srcV at h
  split at h
  · cases h; cases hy; exact .inl ⟨_, rfl, rfl⟩
  · cases h
    cases hy with
    | d hy =>
      cases hy with
      | nil _ A c =>
        cases A with
        | none => exact .inl ⟨_, rfl, rfl⟩
        | some ad => exact .inr ⟨ad, c, [], rfl, by simp, by simp, fun i x hx => by simp at hx⟩
      | sl _ _ b off c s u hn hcap hG hls hc hr =>
        right
        by_cases h0 : es2 = []
        · subst h0
          exact ⟨_, c, [], rfl, by simp, by simp, fun i x hx => by simp at hx⟩
        · obtain ⟨x, hx⟩ := List.exists_mem_of_ne_nil _ h0
          have hss : s = P.cellsOf e := by rw [← hls x hx, hel x hx]
          subst hss
          exact lay b off u c hc hr rfl
  · split at h
    · rename_i s _ t ow es hs
      cases h
      cases hy with
      | gone h1 => rw [hs] at h1; cases h1
      | @ref _ _ _ _ A c h1 h2 =>
        rw [hs] at h1
        cases h1
        obtain ⟨hd, F, k1, k2, k3⟩ := hm.at_ hs
        rw [h2] at k1
        cases k1
        have hnd := nodup_of_flat hm.nd (List.mem_of_getElem? k2)
        have fin : ∀ {R : List D → List Value → List Nat → Prop}, RowOf P w R t es2 A c F → (∀ e cs f, (∀ q ∈ f, q ∈ F ∧ A ≠ some q) → R e cs f → ∃ f', Rds w (good w0.R φ sl w) e cs f') →
            (∃ c2, Value.slice (hdr A) es2.length c = .slice none 0 c2 ∧ es2 = []) ∨ ∃ (ad : Addr) (c2 : Nat) (news : List Value), Value.slice (hdr A) es2.length c = .slice (some ad) es2.length c2 ∧ news.length = es2.length * P.cellsOf e ∧ (∀ j u, news[j]? = some u → w.cell? (ad.add j) = some u) ∧
            ∀ i x, es2[i]? = some x → Rds w (good w0.R φ sl w) x ((news.drop (i * P.cellsOf e)).take (P.cellsOf e)) [] := by
          intro R hr hR
          obtain ⟨q1, q2, ⟨rfl, rfl, rfl⟩ | ⟨g, cur, Gs, rfl, q3, q4, q5, q6, q7, rfl⟩⟩ := hr
          · have h0 : es2 = [] := List.eq_nil_of_length_eq_zero (by omega)
            subst h0
            exact .inl ⟨_, rfl, rfl⟩
          · by_cases h0 : es2 = []
            · subst h0
              exact .inr ⟨_, c, [], rfl, by simp, by simp, fun i x hx => by simp at hx⟩
            · obtain ⟨x, hx⟩ := List.exists_mem_of_ne_nil _ h0
              have hss : P.cellsOf t = P.cellsOf e := by rw [← q6 x hx, hel x hx]
              rw [hss] at q4 q7
              have hle : es2.length * P.cellsOf e ≤ cur.toList.length := by
                have := Nat.mul_le_mul_right (P.cellsOf e) q2
                simpa [q4] using this
              refine .inr ⟨_, c, cur.toList.take (es2.length * P.cellsOf e), rfl, by rw [List.length_take]; exact Nat.min_eq_left hle, fun j u hu => ?_, fun i x hx => ?_⟩
              · rw [List.getElem?_take] at hu
                split at hu
                · rw [add_none, cell_of_row w g _ cur t (0, 0) q3, Nat.zero_add]
                  rw [Array.getElem?_toList] at hu
                  exact hu
                · cases hu
              · have hil := (List.getElem?_eq_some_iff.1 hx).1
                have hf : Gs[i]? = some (Gs[i]'(by omega)) := List.getElem?_eq_getElem _
                have hmul := mul_seg' hil (P.cellsOf e)
                obtain ⟨f', r1, r2, r3⟩ := hR _ _ _ (fun q hq => ⟨List.mem_cons_of_mem _ (mem_flat hf hq), fun e => by cases e; exact (List.nodup_cons.1 hnd).1 (mem_flat hf hq)⟩) (q7 i x _ hx hf)
                rw [← seg_take rfl hmul]
                exact ⟨rfl, r2, r3⟩
        cases ow with
        | false => exact fin k3 fun e cs f _ hr => ⟨f, hr⟩
        | true =>
          refine fin k3 fun e cs f hq ho => ⟨[], ho.rds fun q hqf => ⟨ho.lt q hqf, ?_, hm.rd hst (mem_flat k2 (hq q hqf).1)⟩⟩
          rintro ⟨s2, x2, c2, j1, j2, j3⟩
          obtain ⟨hd2, F2, j4, j5, j6⟩ := hm.at_ j1
          rw [j3] at j4
          cases j4
          have hq2 := j6.head j2
          by_cases hss : s2 = s
          · subst hss
            rw [h2] at j3
            cases j3
            exact (hq q hqf).2 rfl
          · exact flat_disj hm.nd k2 j5 (fun e => hss e.symm) q (hq q hqf).1 hq2
    · cases h
  · cases h
theorem owns_chunks {s : Nat} : ∀ {n : Nat} {ds : List D} {vs : List Value} {F : List Nat}, Owns P w ds vs F → ds.length = n * s → ∃ Gs : List (List Nat), Gs.length = n ∧ Gs.flatten = F ∧ ∀ i f, Gs[i]? = some f → Owns P w ((ds.drop (i * s)).take s) ((vs.drop (i * s)).take s) f
  | 0, ds, vs, F, h, hl => by
    have : ds = [] := List.eq_nil_of_length_eq_zero (by omega)
    subst this
    cases h
    exact ⟨[], rfl, rfl, by simp⟩
  | n + 1, ds, vs, F, h, hl => by
    obtain ⟨F1, F2, rfl, h1, h2⟩ := owns_cut (j := s) h
    obtain ⟨Gs, k1, k2, k3⟩ := owns_chunks (n := n) (s := s) h2 (by rw [List.length_drop, hl, Nat.succ_mul]; omega)
    refine ⟨F1 :: Gs, by simp [k1], by simp [k2], fun i f hf => ?_⟩
    match i with
    | 0 => simp at hf; subst hf; simpa using h1
    | i + 1 =>
      have := k3 i f (by simpa using hf)
      rw [List.drop_drop, List.drop_drop] at this
      have e : s + i * s = (i + 1) * s := by rw [Nat.succ_mul]; omega
      rwa [e] at this
theorem srcV_len {y : V} {v : Value} {es2 : List (List D)} {o : Option Nat} {G : Nat → Prop} (h : srcV sl y = some (es2, o)) (hy : VR w G φ sl y v) : ∃ A c2, v = .slice A es2.length c2 := by
  unfold srcV at h
  split at h
  · cases h; cases hy; exact ⟨_, _, rfl⟩
  · cases h; cases hy with | d hy => obtain ⟨A, c, h, _⟩ := hy.len; exact ⟨A, c, h⟩
  · split at h
    · rename_i hs
      cases h
      cases hy with
      | gone h1 => rw [hs] at h1; cases h1
      | ref h1 h2 => rw [hs] at h1; cases h1; exact ⟨_, _, rfl⟩
    · cases h
  · cases h
/-- What an append goes onto, in memory. -/
theorem base_at (hst : w0.st = false) (hm : MemR P w0 φ sl w Fs) {e : TypeId} {x : V} {v : Value} {ow : Bool} {es : List (List D)} {ks : List Nat} (h : baseV sl e x = some (ow, es, ks)) (hx : VR w (good w0.R φ sl w) φ sl x v) :
    ∃ (A : Option Nat) (c : Nat) (F : List Nat), v = .slice (hdr A) es.length c ∧ ofSlots Fs ks = F ∧ F.Nodup ∧ ks.Nodup ∧ (∀ k ∈ ks, ∃ x, sl[k]? = some x ∧ x.live) ∧ (∀ g, A = some g → ∃ s ∈ ks, ∃ c, φ[s]? = some (some g, c)) ∧
      (ow = true → RowOf P w (Owns P w) e es A c F) ∧ (∃ F2, RowOf P w (Rds w (good w0.R φ sl w)) e es A c F2 ∧ (∀ q, F2.count q ≤ F.count q)) := by
  unfold baseV at h
  split at h
  · cases h
    cases hx
    have hr : ∀ R, RowOf P w R e [] none 0 [] := fun R => ⟨by omega, by simp, .inl ⟨rfl, rfl, rfl⟩⟩
    exact ⟨none, 0, [], rfl, rfl, by simp, by simp, by simp, by simp, fun _ => hr _, [], hr _, by simp⟩
  · rename_i s
    split at h
    · rename_i t ow' es' hs
      split at h
      · rename_i hte
        subst hte
        cases h
        cases hx with
        | gone h1 => rw [hs] at h1; cases h1
        | @ref _ _ _ _ A c h1 h2 =>
          rw [hs] at h1
          cases h1
          obtain ⟨hd, F, k1, k2, k3⟩ := hm.at_ hs
          rw [h2] at k1
          cases k1
          have hnd := nodup_of_flat hm.nd (List.mem_of_getElem? k2)
          refine ⟨A, c, F, rfl, by simp [ofSlots, k2], hnd, by simp, by simpa using ⟨_, hs, trivial⟩, fun g hg => by subst hg; exact ⟨s, by simp, c, h2⟩, fun how => by subst how; exact k3, ?_⟩
          cases ow with
          | false => exact ⟨F, k3, fun q => Nat.le_refl _⟩
          | true =>
            obtain ⟨q1, q2, ⟨rfl, rfl, rfl⟩ | ⟨g, cur, Gs, rfl, q3, q4, q5, q6, q7, rfl⟩⟩ := k3
            · exact ⟨[], ⟨q1, q2, .inl ⟨rfl, rfl, rfl⟩⟩, by simp⟩
            · have hrep : ∀ k : Nat, (List.replicate k ([] : List Nat)).flatten = [] := fun k => by induction k with | zero => rfl | succ k ih => simp [List.replicate_succ, ih]
              refine ⟨[g], ⟨q1, q2, .inr ⟨g, cur, List.replicate es.length [], rfl, q3, q4, by simp, q6, fun i x f hx hf => ?_, by rw [hrep]⟩⟩, fun q => ?_⟩
              · have hil := (List.getElem?_eq_some_iff.1 hx).1
                rw [List.getElem?_replicate, if_pos hil] at hf
                cases hf
                have hf : Gs[i]? = some (Gs[i]'(by omega)) := List.getElem?_eq_getElem _
                have ho := q7 i x _ hx hf
                refine ho.rds fun q hq => ⟨ho.lt q hq, ?_, hm.rd hst (mem_flat k2 (List.mem_cons_of_mem _ (mem_flat hf hq)))⟩
                rintro ⟨s2, x2, c2, j1, j2, j3⟩
                obtain ⟨hd2, F2, j4, j5, j6⟩ := hm.at_ j1
                rw [j3] at j4
                cases j4
                have hq2 := j6.head j2
                by_cases hss : s2 = s
                · subst hss
                  rw [h2] at j3
                  cases j3
                  exact (List.nodup_cons.1 hnd).1 (mem_flat hf hq)
                · exact flat_disj hm.nd k2 j5 (fun e => hss e.symm) q (List.mem_cons_of_mem _ (mem_flat hf hq)) hq2
              · by_cases hq : g = q
                · subst hq
                  rw [List.count_singleton_self]
                  exact List.count_pos_iff.2 (by simp)
                · rw [List.count_eq_zero.2 (by simpa using fun e => hq e.symm)]
                  exact Nat.zero_le _
      · cases h
    · cases h
  · cases h
theorem app4_sound (hst : w0.st = false) {t ty : TypeId} {x y : V} {v u : Value} {K : V → List Slot → Prop} (hm : MemR P w0 φ sl w Fs) (hx : VR w (good w0.R φ sl w) φ sl x v) (hy : VR w (good w0.R φ sl w) φ sl y u) (h : AApp4 P sl t x y K) :
    ∃ r w' φ' sl' z, (Builtin.append_ #[t, t] ty #[v, u]).run P w = .ok r w' ∧ Turn P w0 φ sl w φ' sl' w' ∧ VR w' (good w0.R φ' sl' w') φ' sl' z r ∧ K z sl' := by
  obtain ⟨e, ow, es, ks, ht, hb, hz, hz0, hby, hcase⟩ := h
  obtain ⟨z, hz⟩ := Option.isSome_iff_exists.1 hz
  obtain ⟨A, c, F, rfl, hF, hFn, hks, hkv, hA, hrow, F2, hrd, hF2⟩ := base_at hst hm hb hx
  have hkl : ∀ k ∈ ks, k < sl.length := fun k hk => by obtain ⟨_, h, _⟩ := hkv k hk; exact (List.getElem?_eq_some_iff.1 h).1
  -- the result's place
  have place : ∀ {ks' : List Nat} {A' : Option Nat} {c' : Nat} {w' : World} {es' : List (List D)} {ow' : Bool}, VR w' (good w0.R (φ ++ [(A', c')]) (kill ks' sl ++ [.arr e ow' es']) w') (φ ++ [(A', c')]) (kill ks' sl ++ [.arr e ow' es']) (.ref sl.length) (.slice (hdr A') es'.length c') := by
    intro ks' A' c' w' es' ow'
    exact .ref (t := e) (ow := ow') (es := es') (by rw [List.getElem?_append_right (by rw [kill_len]; exact Nat.le_refl _), kill_len]; simp) (by rw [List.getElem?_append_right (by rw [hm.flen]; exact Nat.le_refl _), hm.flen]; simp)
  have hlenA : A = none → es.length = 0 := fun hA0 => by
    obtain ⟨r1, r2, ⟨_, r3, _⟩ | ⟨g, _, _, r3, _⟩⟩ := hrd
    · omega
    · rw [hA0] at r3; cases r3
  have hnorm : ∀ {R : List D → List Value → List Nat → Prop} {F3 : List Nat}, RowOf P w R e es A c F3 → es.length ≤ c := fun h => h.2.1
  have hrep : ∀ k : Nat, (List.replicate k ([] : List Nat)).flatten = [] := fun k => by induction k with | zero => rfl | succ k ih => simp [List.replicate_succ, ih]
  have hstay : ∀ {w' : World}, Only A.toList w w' → ∀ {ds : List D} {cs : List Value} {f : List Nat}, (∀ q ∈ f, A ≠ some q) → Owns P w ds cs f → Owns P w' ds cs f := by
    intro w' hO ds cs f hq ho
    exact ho.stay fun q hqf => hO.block q (ho.lt q hqf) (by simpa using fun e => hq q hqf e)
  -- a row that is only read, and its head's slots die
  have readOnly : ∀ {es2 : List (List D)} {o : Option Nat}, srcV sl y = some (es2, o) → (∀ c ∈ es2, c.length = P.cellsOf e) → es.length + es2.length ≤ maxPush →
      ∃ r w' φ' , (Builtin.append_ #[t, t] ty #[.slice (hdr A) es.length c, u]).run P w = .ok r w' ∧ Turn P w0 φ sl w φ' (kill ks sl ++ [.arr e false (es ++ es2)]) w' ∧ VR w' (good w0.R φ' (kill ks sl ++ [.arr e false (es ++ es2)]) w') φ' (kill ks sl ++ [.arr e false (es ++ es2)]) (.ref sl.length) r := by
    intro es2 o hs hel hlim
    rcases src_cells hst hm hs hel hy with ⟨c2, rfl, rfl⟩ | ⟨ad, c2, news, rfl, hl, hnews, hr⟩
    · refine ⟨_, w, φ ++ [(A, c)], run_append_none ht hz0 (hnorm hrd) hlenA, ?_, by simpa using place⟩
      refine turn_push hm hks hkv hA (F' := F2) (Only.refl _ _) (fun g hg => .inl hg) (fun φ' sl' he => ?_) (fun q => by rw [hF]; have := hF2 q; omega)
      have : RowOf P w (Rds w (good w0.R φ' sl' w)) e es A c F2 := hrd.stay (fun _ _ => rfl) fun _ _ _ _ _ hr => hr.mono he.hk
      rw [List.append_nil]
      exact this
    · obtain ⟨A', c', w', F', hrun, hO, hA', hrow', hc⟩ := row_push (R' := fun w' => Rds w (good w0.R φ sl w)) (Gs := List.replicate es2.length []) ht hz hz0 hby hrd rfl (by simp) hl hnews (fun u hu => by
          obtain ⟨k, hk, rfl⟩ := List.mem_iff_getElem.1 hu
          have hs0 : 0 < P.cellsOf e := Nat.pos_of_ne_zero hz0
          have hi : k / P.cellsOf e < es2.length := Nat.div_lt_of_lt_mul (by rw [Nat.mul_comm, ← hl]; exact hk)
          have hrr := hr _ _ (List.getElem?_eq_getElem hi)
          refine hrr.one _ (List.mem_iff_getElem?.2 ⟨k % P.cellsOf e, ?_⟩)
          rw [List.getElem?_take, if_pos (Nat.mod_lt _ hs0), List.getElem?_drop, Nat.mul_comm, Nat.div_add_mod]
          exact List.getElem?_eq_getElem hk) hel (fun i x f hx hf => by
          rw [List.getElem?_replicate] at hf
          split at hf
          · cases hf; exact hr i x hx
          · cases hf) hlim (fun w' _ e cs f _ _ hr => hr) (fun q => by
            rw [hrep]
            have h1 := hF2 q
            have h2 := List.nodup_iff_count.1 hFn q
            simp
            omega)
      refine ⟨_, w', φ ++ [(A', c')], hrun, turn_push (y := .arr e false (es ++ es2)) (F' := F') hm hks hkv hA hO hA' (fun φ' sl' he => ?_) (fun q => ?_), place⟩
      · exact hrow'.stay (fun _ _ => rfl) fun _ _ _ _ _ hr => hr.mono he.hk
      · have h1 := hc q
        have h2 := hF2 q
        rw [hrep] at h1
        rw [hF]
        simp at h1
        omega
  rcases hcase with ⟨es2, o, hs, ho, hel, hlim, hfl, hK⟩ | ⟨s2, es2, rfl, hs2, hk2, how, hlim, hK⟩ | ⟨s2, n2, cells, ds, ks2, rfl, hs2, htk, hdis, hcl, how, hlim, hK⟩ | ⟨es2, o, hs, ho, hel, hlim, hK⟩
  · cases how : ow with
    | false =>
      subst how
      obtain ⟨r, w', φ', h1, h2, h3⟩ := readOnly hs hel hlim
      exact ⟨r, w', φ', _, _, h1, h2, h3, hK⟩
    | true =>
      subst how
      have hro := hrow rfl
      rcases src_cells hst hm hs hel hy with ⟨c2, rfl, rfl⟩ | ⟨ad, c2, news, rfl, hl, hnews, hr⟩
      · refine ⟨_, w, φ ++ [(A, c)], _, _, run_append_none ht hz0 (hnorm hrd) hlenA, ?_, by simpa using place, hK⟩
        refine turn_push hm hks hkv hA (F' := F) (Only.refl _ _) (fun g hg => .inl hg) (fun φ' sl' he => ?_) (fun q => by rw [hF]; omega)
        rw [List.append_nil]
        exact hro
      · obtain ⟨A', c', w', F', hrun, hO, hA', hrow', hc⟩ := row_push (R' := fun w' => Owns P w') (Gs := List.replicate es2.length []) ht hz hz0 hby hro rfl (by simp) hl hnews (fun u hu => by
            obtain ⟨k, hk, rfl⟩ := List.mem_iff_getElem.1 hu
            have hs0 : 0 < P.cellsOf e := Nat.pos_of_ne_zero hz0
            have hi : k / P.cellsOf e < es2.length := Nat.div_lt_of_lt_mul (by rw [Nat.mul_comm, ← hl]; exact hk)
            have hrr := hr _ _ (List.getElem?_eq_getElem hi)
            refine hrr.one _ (List.mem_iff_getElem?.2 ⟨k % P.cellsOf e, ?_⟩)
            rw [List.getElem?_take, if_pos (Nat.mod_lt _ hs0), List.getElem?_drop, Nat.mul_comm, Nat.div_add_mod]
            exact List.getElem?_eq_getElem hk) hel (fun i x f hx hf => by
            rw [List.getElem?_replicate] at hf
            split at hf
            · cases hf
              have hrr := hr i x hx
              exact owns_flat (fun d hd => hfl rfl x (List.mem_of_getElem? hx) d hd) hrr.2.1 hrr.2.2
            · cases hf) hlim (fun w' hO e cs f hf hn ho => hstay hO (fun q hq hAq => hn q hq hAq (by
              rw [hrep]
              have h2 := List.nodup_iff_count.1 hFn q
              simp
              omega)) ho) (fun q => by
              rw [hrep]
              have h2 := List.nodup_iff_count.1 hFn q
              simp
              omega)
        refine ⟨_, w', φ ++ [(A', c')], _, _, hrun, turn_push (y := .arr e true (es ++ es2)) (F' := F') hm hks hkv hA hO hA' (fun φ' sl' he => hrow') (fun q => ?_), place, hK⟩
        have h1 := hc q
        rw [hrep] at h1
        rw [hF]
        simp at h1
        omega
  · subst how
    have hro := hrow rfl
    cases hy with
    | gone h1 => rw [hs2] at h1; cases h1
    | @ref _ _ _ _ A2 c2 h1 h2 =>
      rw [hs2] at h1
      cases h1
      obtain ⟨hd, F3, k1, k2, k3⟩ := hm.at_ hs2
      rw [h2] at k1
      cases k1
      have hks' : (s2 :: ks).Nodup := List.nodup_cons.2 ⟨hk2, hks⟩
      have hkv' : ∀ k ∈ s2 :: ks, ∃ x, sl[k]? = some x ∧ x.live := fun k hk => by
        rcases List.mem_cons.1 hk with rfl | hk
        · exact ⟨_, hs2, trivial⟩
        · exact hkv k hk
      have hAk : ∀ g, A = some g → ∃ s ∈ s2 :: ks, ∃ c, φ[s]? = some (some g, c) := fun g hg => by obtain ⟨s, h3, h4⟩ := hA g hg; exact ⟨s, by simp [h3], h4⟩
      have hof : ofSlots Fs (s2 :: ks) = F3 ++ F := by rw [← hF]; simp [ofSlots, k2]
      have hnd3 := nodup_of_flat hm.nd (List.mem_of_getElem? k2)
      have hdisF : ∀ q, F3.count q + F.count q ≤ 1 := by
        intro q
        have h4 := cnt_killF q hks' (fun k hk => by rw [hm.Flen]; obtain ⟨_, h5, _⟩ := hkv' k hk; exact (List.getElem?_eq_some_iff.1 h5).1)
        have h5 := List.nodup_iff_count.1 hm.nd q
        rw [hof, List.count_append] at h4
        simp only [cnt] at h4
        omega
      obtain ⟨q1, q2, ⟨rfl, rfl, rfl⟩ | ⟨g, cur, Gs, rfl, q3, q4, q5, q6, q7, rfl⟩⟩ := k3
      · have h0 : es2 = [] := List.eq_nil_of_length_eq_zero (by omega)
        subst h0
        refine ⟨_, w, φ ++ [(A, c)], _, _, run_append_none ht hz0 (hnorm hrd) hlenA, ?_, by simpa using place (ks' := s2 :: ks), hK⟩
        refine turn_push hm hks' hkv' hAk (F' := F) (Only.refl _ _) (fun g hg => .inl hg) (fun φ' sl' he => ?_) (fun q => by rw [hof, List.count_append]; omega)
        rw [List.append_nil]
        exact hro
      · have hle : es2.length * P.cellsOf e ≤ cur.toList.length := by
          have := Nat.mul_le_mul_right (P.cellsOf e) q2
          simpa [q4] using this
        have hGc : ∀ q, Gs.flatten.count q ≤ (g :: Gs.flatten).count q := fun q => by rw [List.count_cons]; omega
        have hown : ∀ i x f, es2[i]? = some x → Gs[i]? = some f → Owns P w x (((cur.toList.take (es2.length * P.cellsOf e)).drop (i * P.cellsOf e)).take (P.cellsOf e)) f := fun i x f hx hf => by
          rw [← seg_take rfl (mul_seg' (List.getElem?_eq_some_iff.1 hx).1 _)]
          exact q7 i x f hx hf
        obtain ⟨A', c', w', F', hrun, hO, hA', hrow', hc⟩ := row_push (R' := fun w' => Owns P w') (Gs := Gs) (news := cur.toList.take (es2.length * P.cellsOf e)) (c2 := c2) ht hz hz0 hby hro rfl q5 (by rw [List.length_take]; exact Nat.min_eq_left hle) (ad := ⟨g, 0, none⟩) (fun j u hu => by
            rw [List.getElem?_take] at hu
            split at hu
            · rw [add_none, cell_of_row w g _ cur e (0, 0) q3, Nat.zero_add]
              rw [Array.getElem?_toList] at hu
              exact hu
            · cases hu) (fun u hu => by
            obtain ⟨k, hk, rfl⟩ := List.mem_iff_getElem.1 hu
            have hs0 : 0 < P.cellsOf e := Nat.pos_of_ne_zero hz0
            have hkl2 : (cur.toList.take (es2.length * P.cellsOf e)).length = es2.length * P.cellsOf e := by rw [List.length_take]; exact Nat.min_eq_left hle
            have hi : k / P.cellsOf e < es2.length := Nat.div_lt_of_lt_mul (by rw [Nat.mul_comm, ← hkl2]; exact hk)
            have hf : Gs[k / P.cellsOf e]? = some (Gs[k / P.cellsOf e]'(by omega)) := List.getElem?_eq_getElem _
            refine (hown _ _ _ (List.getElem?_eq_getElem hi) hf).one _ (List.mem_iff_getElem?.2 ⟨k % P.cellsOf e, ?_⟩)
            rw [List.getElem?_take, if_pos (Nat.mod_lt _ hs0), List.getElem?_drop, show k / P.cellsOf e * P.cellsOf e + k % P.cellsOf e = k from by rw [Nat.mul_comm, Nat.div_add_mod]]
            exact List.getElem?_eq_getElem hk) q6 hown hlim (fun w' hO e cs f hf hn ho => hstay hO (fun q hq hAq => hn q hq hAq (by
              have h4 := hdisF q
              have h5 := hGc q
              omega)) ho) (fun q => by
              have h4 := hdisF q
              have h5 := hGc q
              omega)
        refine ⟨_, w', φ ++ [(A', c')], _, _, hrun, turn_push (y := .arr e true (es ++ es2)) (F' := F') hm hks' hkv' hAk hO hA' (fun φ' sl' he => hrow') (fun q => ?_), place (ks' := s2 :: ks), hK⟩
        have h1 := hc q
        have h5 := hGc q
        rw [hof, List.count_append]
        omega
  · subst how
    have hro := hrow rfl
    cases hy with
    | litgone h1 => rw [hs2] at h1; cases h1
    | @lit _ _ t2 xs g c2 h1 h2 =>
      rw [hs2] at h1
      cases h1
      obtain ⟨hd, F3, k1, k2, k3⟩ := hm.at_ hs2
      rw [h2] at k1
      cases k1
      obtain ⟨g', cur, e1, e2, e3, e4, e5⟩ := k3
      cases e1
      subst e2
      have hcv : VRs w (good w0.R φ sl w) φ sl cells cur.toList := ⟨by simp [e4], fun i x v hx hv => e5 i x v hx (by simpa using hv)⟩
      obtain ⟨t1, t2, t3⟩ := takeC_sound hm htk hcv
      have hdl : ds.length = n2 * P.cellsOf e := by rw [← t1.len, hcv.1, hcl]
      obtain ⟨Gs, g1, g2, g3⟩ := owns_chunks (s := P.cellsOf e) (n := n2) t1 hdl
      have hk2n : s2 ∉ ks ++ ks2 := by
        intro hk
        rcases List.mem_append.1 hk with hk | hk
        · obtain ⟨ks0, hks0⟩ : ∃ q, baseV sl e x = some q := ⟨_, hb⟩
          unfold baseV at hb
          split at hb
          · cases hb; simp at hk
          · split at hb
            · rename_i hs3
              split at hb
              · cases hb; simp at hk; subst hk; rw [hs2] at hs3; cases hs3
              · cases hb
            · cases hb
          · cases hb
        · obtain ⟨_, _, h3⟩ := t3 s2 hk; rw [hs2] at h3; cases h3
      have hks' : (s2 :: (ks ++ ks2)).Nodup := List.nodup_cons.2 ⟨hk2n, List.nodup_append.2 ⟨hks, t2, fun a ha b hb e => hdis b hb (e ▸ ha)⟩⟩
      have hkv' : ∀ k ∈ s2 :: (ks ++ ks2), ∃ x, sl[k]? = some x ∧ x.live := fun k hk => by
        rcases List.mem_cons.1 hk with rfl | hk
        · exact ⟨_, hs2, trivial⟩
        · rcases List.mem_append.1 hk with hk | hk
          · exact hkv k hk
          · obtain ⟨_, _, h3⟩ := t3 k hk; exact ⟨_, h3, trivial⟩
      have hAk : ∀ g, A = some g → ∃ s ∈ s2 :: (ks ++ ks2), ∃ c, φ[s]? = some (some g, c) := fun g hg => by obtain ⟨s, h3, h4⟩ := hA g hg; exact ⟨s, by simp [h3], h4⟩
      have hof : ∀ q, (ofSlots Fs (s2 :: (ks ++ ks2))).count q = [g].count q + F.count q + (ofSlots Fs ks2).count q := by
        intro q
        have e1 : ofSlots Fs (s2 :: (ks ++ ks2)) = [g] ++ (ofSlots Fs ks ++ ofSlots Fs ks2) := by simp [ofSlots, k2]
        rw [e1, List.count_append, List.count_append, hF, Nat.add_assoc]
      have hdisF : ∀ q, [g].count q + F.count q + (ofSlots Fs ks2).count q ≤ 1 := by
        intro q
        have h4 := cnt_killF q hks' (fun k hk => by rw [hm.Flen]; obtain ⟨_, h5, _⟩ := hkv' k hk; exact (List.getElem?_eq_some_iff.1 h5).1)
        have h5 := List.nodup_iff_count.1 hm.nd q
        rw [hof] at h4
        simp only [cnt] at h4
        omega
      have hel2 : ∀ x ∈ chunks (P.cellsOf e) n2 ds, x.length = P.cellsOf e := by
        intro x hx
        obtain ⟨i, hi, rfl⟩ := List.mem_iff_getElem.1 hx
        have hil : i < n2 := by rw [chunks_len] at hi; exact hi
        have hc := chunks_at (s := P.cellsOf e) (xs := ds) hil
        rw [List.getElem?_eq_getElem hi] at hc
        rw [Option.some.inj hc]
        have := mul_seg' hil (P.cellsOf e)
        simp [hdl]
        omega
      obtain ⟨A', c', w', F', hrun, hO, hA', hrow', hc⟩ := row_push (R' := fun w' => Owns P w') (Gs := Gs) (news := cur.toList) (c2 := n2) (m := n2) (es2 := chunks (P.cellsOf e) n2 ds) ht hz hz0 hby hro (chunks_len _ _) g1 (by rw [hcv.1, hcl]) (ad := ⟨g, 0, none⟩) (fun j u hu => by
          rw [add_none, cell_of_row w g _ cur e (0, 0) e3, Nat.zero_add]
          rw [Array.getElem?_toList] at hu
          exact hu) hcv.oneAll hel2 (fun i x f hx hf => by
          have hil : i < n2 := by have := (List.getElem?_eq_some_iff.1 hx).1; rw [chunks_len] at this; exact this
          rw [chunks_at hil] at hx
          cases hx
          exact g3 i f hf) hlim (fun w' hO e cs f hf hn ho => hstay hO (fun q hq hAq => hn q hq hAq (by
            have h4 := hdisF q
            rw [g2]
            omega)) ho) (fun q => by
            have h4 := hdisF q
            rw [g2]
            omega)
      refine ⟨_, w', φ ++ [(A', c')], _, _, hrun, turn_push (y := .arr e true (es ++ chunks (P.cellsOf e) n2 ds)) (F' := F') hm hks' hkv' hAk hO hA' (fun φ' sl' he => hrow') (fun q => ?_), place (ks' := s2 :: (ks ++ ks2)), hK⟩
      have h1 := hc q
      rw [g2] at h1
      rw [hof]
      omega
  · obtain ⟨r, w', φ', h1, h2, h3⟩ := readOnly hs hel hlim
    exact ⟨r, w', φ', _, _, h1, h2, h3, hK⟩
theorem append_sound {st : Bool} (hst : w0.st = st) {t ty : TypeId} {x y : V} {v u : Value} {K : V → List Slot → Prop} (hm : MemR P w0 φ sl w Fs) (hx : VR w (good w0.R φ sl w) φ sl x v) (hy : VR w (good w0.R φ sl w) φ sl y u) (h : AAppend P st sl t x y K) :
    ∃ r w' φ' sl' z, (Builtin.append_ #[t, t] ty #[v, u]).run P w = .ok r w' ∧ Turn P w0 φ sl w φ' sl' w' ∧ VR w' (good w0.R φ' sl' w') φ' sl' z r ∧ K z sl' := by
  obtain ⟨hs, h⟩ := h
  replace hst := hst.trans hs
  rcases h with h | ⟨d, ks, hf, h⟩
  · exact app4_sound hst hm hx hy h
  · obtain ⟨t1, hd⟩ := freezeV_sound hst hm hf hy
    obtain ⟨Fs2, hm2⟩ := t1.1
    obtain ⟨r, w', φ', sl', z, h1, h2, h3, h4⟩ := app4_sound (ty := ty) hst hm2 (hx.mono t1.2.hk t1.2.hs t1.2.hp) hd h
    exact ⟨r, w', φ', sl', z, h1, t1.trans hm.flen h2, h3, h4⟩
end
end Go.Proofs.Ytdliejnmpdodhaa
