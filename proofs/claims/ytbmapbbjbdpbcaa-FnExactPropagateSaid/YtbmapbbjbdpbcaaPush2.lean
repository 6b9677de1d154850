/-
  append of a whole slice onto one that the call owns; elements that lie in older memory. Plain lemmas.
  Conditions: those typed in each theorem.
-/
import Derived.Test.YtbmapbbjbdpbcaaPush
namespace Go.Proofs.Ytbmapbbjbdpbcaa
open Go.RowKit Go.ChangeShapes Go.WideShapes

/-- Elements of one cell that lie in the world W0 below block B: they are handed on, not owned. -/
def frT {α : Type} (W0 : World) (B : Nat) (T : Ty α) (hone : ∀ {cs : List Value} {d : α}, T.rd W0 B cs d → ∀ u ∈ cs, u.oneCell' = true) : Ty α where
  id := T.id
  size := T.size
  rd := fun _ _ cs d => T.rd W0 B cs d
  ow := fun _ cs d F => T.rd W0 B cs d ∧ F = []
  pos := T.pos
  keep := fun _ h => h
  mono := fun _ h => h
  stay := fun _ h => h
  lt := fun h => by simp [h.2]
  toRd := fun h _ => h.1
  len := fun h => T.rlen h.1
  one := fun h => hone h.1
  rlen := fun h => T.rlen h

theorem SlR.of_fr {α : Type} {W0 : World} {B : Nat} {T : Ty α} {hone : ∀ {cs : List Value} {d : α}, T.rd W0 B cs d → ∀ u ∈ cs, u.oneCell' = true} {w : World} {B' : Nat} {A : Option Addr} {xs : List α}
    (h : SlR (frT W0 B T hone) w B' A xs) (hb : Below B W0 w) (hB : B ≤ B') : SlR T w B' A xs :=
  ⟨h.1, fun hn => by
    obtain ⟨b, o, e, hlt, hc⟩ := h.2 hn
    refine ⟨b, o, e, hlt, fun i x hx => ?_⟩
    obtain ⟨cs, h1, h2⟩ := hc i x hx
    exact ⟨cs, h1, T.mono hB (T.keep (fun _ hp => hb.cell hp) h2)⟩⟩

/-- What is read can be handed on as an element of one cell. -/
def Hands {α : Type} (T T' : Ty α) (w : World) (B : Nat) : Prop := ∀ {cs : List Value} {d : α}, T.rd w B cs d → ∃ u, cs = [u] ∧ ∀ W, T'.ow W [u] d []
theorem hands_int (w : World) (B : Nat) : Hands intT intT w B := fun h => ⟨_, h, fun _ => ⟨rfl, rfl⟩⟩
theorem hands_bool (w : World) (B : Nat) : Hands boolT boolT w B := fun h => ⟨_, h, fun _ => ⟨rfl, rfl⟩⟩
theorem hands_fr {α : Type} {W0 : World} {B : Nat} {T : Ty α} (h1 : T.size = 1) (hone : ∀ {cs : List Value} {d : α}, T.rd W0 B cs d → ∀ u ∈ cs, u.oneCell' = true) : Hands T (frT W0 B T hone) W0 B := fun h => by
  have hl := T.rlen h
  rw [h1] at hl
  obtain ⟨u, rfl⟩ := List.length_eq_one_iff.1 hl
  exact ⟨u, rfl, fun _ => ⟨h, rfl⟩⟩

section
variable {α : Type} {T T' : Ty α} {w w' : World} {A A2 : Option Addr} {c c2 : Nat} {xs ys : List α} {F : List Nat} {P : Program} {B : Nat}
theorem run_append_nothing (t ty : TypeId) {z : Value} {bytes : Nat} (inf : Inf P T' z bytes) (ht : P.underlying t = some (.slice T'.id)) (hown : SlO T' w A c xs F) :
    (Builtin.append_ #[t, t] ty #[.slice A xs.length c, .slice none 0 c2]).run P w = .ok (.slice A xs.length c) w := by
  obtain ⟨i, hi, hz, hsz, hby, hzs⟩ := inf
  have hcap := hown.cap
  obtain ⟨hc63, ⟨rfl, rfl, rfl, rfl⟩ | ⟨g, Fs, rfl, rfl, hr⟩⟩ := hown
  · simp [Builtin.append_, run_underlying ht, sizeOf, typeInfo, hi, Builtin.lenOf, Builtin.firstCells]
  · simp [Builtin.append_, run_underlying ht, sizeOf, typeInfo, hi, Builtin.lenOf, Builtin.firstCells, hcap, storeCells]
theorem flatten_rep (n : Nat) : (List.replicate n ([] : List Nat)).flatten = [] := by
  induction n with
  | zero => rfl
  | succ n ih => simp [List.replicate_succ, ih]
theorem run_pushAll {z : Value} {bytes : Nat} (inf : Inf P T' z bytes) (t ty : TypeId) (ht : P.underlying t = some (.slice T'.id)) (hs1 : T.size = 1) (hs1' : T'.size = 1) (hown : SlO T' w A c xs F) (hF : F.Nodup) (hsrc : SlR T w B A2 ys) (hh : Hands T T' w B)
    (hlim : xs.length + ys.length ≤ 1099511627776) (hbytes : bytes ≤ 128) :
    ∃ A' c' F' w', (Builtin.append_ #[t, t] ty #[.slice A xs.length c, .slice A2 ys.length c2]).run P w = .ok (.slice A' (xs ++ ys).length c') w' ∧ SlO T' w' A' c' (xs ++ ys) F' ∧
      F'.Nodup ∧ (∀ g ∈ F', g ∈ F ∨ g = w.heap.size) ∧ Only F w w' := by
  by_cases h0 : ys.length = 0
  · have hy : ys = [] := List.eq_nil_of_length_eq_zero h0
    subst hy
    cases A2 with
    | none => exact ⟨A, c, F, w, by simpa using run_append_nothing t ty inf ht hown, by simpa using hown, hF, fun g hg => .inl hg, Only.refl _ _⟩
    | some ad =>
      obtain ⟨A', c', F', w', h1, h2, h3, h4, h5⟩ := run_push (ys := []) inf t ty ht hown hF ad 0 c2 [] [] rfl rfl (by simp) (by simp) (by simp) (by simp) (by omega) hbytes (by simp)
      exact ⟨A', c', F', w', h1, h2, h3 (by simp), fun g hg => by rcases h4 g hg with h | h | h <;> first | exact .inl h | (simp at h; done) | exact .inr h, h5⟩
  · obtain ⟨b, o, rfl, hb, hc⟩ := hsrc.2 (by omega)
    have hel : ∀ i, (h : i < ys.length) → ∃ u, w.cell? ⟨b, o + i, none⟩ = some u ∧ ∀ W, T'.ow W [u] ys[i] [] := by
      intro i h
      obtain ⟨cs, h1, h2⟩ := hc i _ (List.getElem?_eq_getElem h)
      obtain ⟨u, rfl, hu⟩ := hh h2
      have := h1 0 u rfl
      rw [hs1, Nat.mul_one, Nat.add_zero] at this
      exact ⟨u, this, hu⟩
    let news : List Value := (List.range ys.length).pmap (fun i h => Classical.choose (hel i h)) (fun i hi => by simpa using hi)
    have hnl : news.length = ys.length := by simp [news]
    have hnat : ∀ i, (h : i < ys.length) → news[i]? = some (Classical.choose (hel i h)) := by
      intro i h
      have : i < news.length := by omega
      rw [List.getElem?_eq_getElem this]
      simp [news]
    have hnews : ∀ j u, news[j]? = some u → w.cell? ((⟨b, o, none⟩ : Addr).add j) = some u := by
      intro j u hu
      have hj : j < ys.length := by have := (List.getElem?_eq_some_iff.1 hu).1; omega
      rw [hnat j hj] at hu
      obtain rfl := Option.some.inj hu
      have e : (⟨b, o, none⟩ : Addr).add j = ⟨b, o + j, none⟩ := by
        unfold Addr.add
        split
        · rename_i h0; rw [h0, Nat.add_zero]
        · rfl
      rw [e]
      exact (Classical.choose_spec (hel j hj)).1
    have how : ∀ i y f, ys[i]? = some y → (List.replicate ys.length ([] : List Nat))[i]? = some f → T'.ow w ((news.drop (i * T'.size)).take T'.size) y f := by
      intro i y f hy hf
      have hi : i < ys.length := (List.getElem?_eq_some_iff.1 hy).1
      rw [List.getElem?_replicate, if_pos hi] at hf
      obtain rfl := Option.some.inj hf
      rw [List.getElem?_eq_getElem hi] at hy
      obtain rfl := Option.some.inj hy
      rw [hs1', Nat.mul_one, take_one_at (hnat i hi)]
      exact (Classical.choose_spec (hel i hi)).2 w
    have hone : ∀ u ∈ news, u.oneCell' = true := by
      intro u hu
      obtain ⟨i, hi, rfl⟩ := List.mem_iff_getElem.1 hu
      have hi' : i < ys.length := by omega
      have h := hnat i hi'
      rw [List.getElem?_eq_getElem hi] at h
      rw [Option.some.inj h]
      exact T'.one ((Classical.choose_spec (hel i hi')).2 w) _ (by simp)
    obtain ⟨A', c', F', w', h1, h2, h3, h4, h5⟩ := run_push (ys := ys) inf t ty ht hown hF ⟨b, o, none⟩ ys.length c2 news (List.replicate ys.length []) rfl (by simp) (by rw [hnl, hs1', Nat.mul_one]) hnews hone how (by omega) hbytes (by rw [flatten_rep]; simp)
    rw [flatten_rep] at h3 h4
    exact ⟨A', c', F', w', h1, h2, h3 (by simp), fun g hg => by rcases h4 g hg with h | h | h <;> first | exact .inl h | (simp at h; done) | exact .inr h, h5⟩
/-- For the walk: behind 'at_builtin'. -/
theorem wpList_pushAll {ops : Array Oper} {rest : List Oper} {o : Oper} {a : Act} {Q : Exit → Act → World → Prop} (hgd : o.guard = none) (s x : Operand) (t : TypeId)
    (ho : o.op = .call { callee := .builtin .append, args := #[s, x], argTypes := #[t, t] })
    {z : Value} {bytes : Nat} (inf : Inf P T' z bytes) (hbytes : bytes ≤ 128) (hs1 : T.size = 1) (hs1' : T'.size = 1) (ht : P.underlying t = some (.slice T'.id)) (A : Option Addr) (c : Nat) (xs : List α) (F : List Nat) (hs : a.eval s = .slice A xs.length c) (hown : SlO T' w A c xs F) (hF : F.Nodup)
    (A2 : Option Addr) (ys : List α) (c2 : Nat) (hx : a.eval x = .slice A2 ys.length c2) (hsrc : SlR T w B A2 ys) (hh : Hands T T' w B) (hlim : xs.length + ys.length ≤ 1099511627776)
    (h : ∀ A' c' F' w', SlO T' w' A' c' (xs ++ ys) F' → F'.Nodup → (∀ g ∈ F', g ∈ F ∨ g = w.heap.size) → Only F w w' → wpList P ops Q rest (a.put o.dst (.slice A' (xs ++ ys).length c')) w') :
    wpList P ops Q (o :: rest) a w := by
  refine wpList_plain hgd fun K hK => ?_
  obtain ⟨A', c', F', w', hr, h2, h3, h4, h5⟩ := run_pushAll (P := P) (c2 := c2) inf t o.type ht hs1 hs1' hown hF hsrc hh hlim hbytes
  unfold Oper.wp execOp
  simp only [ho, resolve, invoke, builtin, Sem.run_bind, Sem.run_pure, Result.andThen_ok, List.map_toArray, List.map_cons, List.map_nil, hs, hx, hr]
  exact hK _ _ (h A' c' F' w' h2 h3 h4 h5)
end
end Go.Proofs.Ytbmapbbjbdpbcaa
