/-
  append onto a slice that the call owns, said of data: plain lemmas, about no function of the program.
  Conditions: those typed in each theorem.
-/
import Derived.Test.YtfgdcjpclngeaaaMem
namespace Go.Proofs.Ytfgdcjpclngeaaa
open Go.RowKit Go.ChangeShapes Go.WideShapes

/-- The type's row in the program's table. -/
def Inf {α : Type} (P : Program) (T : Ty α) (z : Value) (bytes : Nat) : Prop := ∃ i, P.info? T.id = some i ∧ i.zero = some z ∧ i.size = T.size ∧ i.bytes = bytes ∧ z.cells.size = T.size

theorem inf_of {α : Type} {P : Program} {T : Ty α} {z : Value} {bytes : Nat} (h : (P.info? T.id).map (fun i => (i.zero, i.size, i.bytes)) = some (some z, T.size, bytes)) (hz : z.cells.size = T.size) : Inf P T z bytes := by
  cases hi : P.info? T.id with
  | none => rw [hi] at h; cases h
  | some i =>
    rw [hi] at h
    simp only [Option.map_some, Option.some.injEq, Prod.mk.injEq] at h
    exact ⟨i, hi, h.1, h.2.1, h.2.2, hz⟩

section
variable {α : Type} {T : Ty α} {w w' : World} {A : Option Addr} {c : Nat} {xs ys : List α} {F : List Nat} {P : Program}
theorem drop_take_of_take {l p : List Value} {n i s : Nat} (h : l.take n = p) (hi : i + s ≤ n) : (l.drop i).take s = (p.drop i).take s := by
  subst h
  apply List.ext_getElem?
  intro j
  simp only [List.getElem?_take, List.getElem?_drop]
  split
  · rw [if_pos (by omega)]
  · rfl
theorem run_push {z : Value} {bytes : Nat} (inf : Inf P T z bytes) (t ty : TypeId) (ht : P.underlying t = some (.slice T.id)) (hown : SlO T w A c xs F) (hF : F.Nodup)
    (ad : Addr) (m c2 : Nat) (news : List Value) (Gs : List (List Nat)) (hm : ys.length = m) (hG : Gs.length = m) (hl : news.length = m * T.size) (hnews : ∀ j u, news[j]? = some u → w.cell? (ad.add j) = some u)
    (hone : ∀ u ∈ news, u.oneCell' = true) (how : ∀ i y f, ys[i]? = some y → Gs[i]? = some f → T.ow w ((news.drop (i * T.size)).take T.size) y f)
    (hlim : xs.length + m ≤ 1099511627776) (hbytes : bytes ≤ 128) (hdis : ∀ g ∈ F, g ∉ Gs.flatten) :
    ∃ A' c' F' w', (Builtin.append_ #[t, t] ty #[.slice A xs.length c, .slice (some ad) m c2]).run P w = .ok (.slice A' (xs ++ ys).length c') w' ∧ SlO T w' A' c' (xs ++ ys) F' ∧
      (Gs.flatten.Nodup → F'.Nodup) ∧ (∀ g ∈ F', g ∈ F ∨ g ∈ Gs.flatten ∨ g = w.heap.size) ∧ Only F w w' := by
  obtain ⟨i, hi, hz, hsz, hby, hzs⟩ := inf
  have hcap := hown.cap
  obtain ⟨hc63, hcase⟩ := hown
  -- the cells that are there
  obtain ⟨cells, hrow, hold, hblk⟩ : ∃ cells : List Value, w.ownsRow 0 T.id T.size (.slice A xs.length c) xs.length cells ∧
      (∀ i x, xs[i]? = some x → ∃ f, (∀ k ∈ f, k ∈ F ∧ some k ≠ Value.ownBlock (.slice A xs.length c)) ∧ T.ow w ((cells.drop (i * T.size)).take T.size) x f ∧ True) ∧ (∀ k, Value.ownBlock (.slice A xs.length c) = some k → k ∈ F) := by
    rcases hcase with ⟨rfl, rfl, rfl, rfl⟩ | ⟨g, Fs, rfl, rfl, hr⟩
    · exact ⟨[], ⟨by simp, .inl ⟨rfl, rfl⟩⟩, fun i x hx => by simp at hx, fun k hk => by simp [Value.ownBlock] at hk⟩
    · have hlen := hr.len
      obtain ⟨h1, h2, cur, hcur, hs, hc⟩ := hr
      have hle : xs.length * T.size ≤ c * T.size := Nat.mul_le_mul_right _ h1
      have hcl : cur.toList.length = c * T.size := by simpa using hs
      refine ⟨cur.toList.take (xs.length * T.size), ⟨by rw [List.length_take, hcl]; exact Nat.min_eq_left hle, .inr ⟨g, c, cur, rfl, Nat.zero_le _, hcur, h1, by simp only [maxLen]; omega, hs, rfl⟩⟩, fun i x hx => ?_, fun k hk => by simp [Value.ownBlock] at hk; simp [hk]⟩
      have hil : i < xs.length := (List.getElem?_eq_some_iff.1 hx).1
      have hf : Fs[i]? = some (Fs[i]'(by omega)) := List.getElem?_eq_getElem (by omega)
      refine ⟨_, fun k hk => ⟨List.mem_cons_of_mem _ (mem_flat hf hk), ?_⟩, ?_, trivial⟩
      · intro e
        simp [Value.ownBlock] at e
        subst e
        exact (List.nodup_cons.1 hF).1 (mem_flat hf hk)
      · have hmul : i * T.size + T.size ≤ xs.length * T.size := by
          have := Nat.mul_le_mul_right T.size hil
          rwa [Nat.succ_mul] at this
        rw [← drop_take_of_take rfl hmul]
        exact hc i x _ hx hf
  have hb : (xs.length + m) * bytes ≤ 140737488355328 := Nat.le_trans (Nat.mul_le_mul hlim hbytes) (by omega)
  obtain ⟨v', w', hrun, h2, h3, _, h5⟩ := run_append_own_at (P := P) w 0 t ty T.id i z T.size bytes ht hi hz hsz hby hzs T.pos _ _ _ hrow ad m c2 news hl hnews hone (by simp only [maxLen]; omega) hb (Nat.zero_le _)
  have hOnly : Only F w w' := ⟨h3.os, h3.tape, h3.output, h3.size, fun k hk hn => h3.block k hk (fun e => hn (hblk k e.symm))⟩
  have hkeep : ∀ k, k < w.heap.size → some k ≠ Value.ownBlock (.slice A xs.length c) → w'.heap[k]? = w.heap[k]? := h3.block
  have hlen' : (xs ++ ys).length = xs.length + m := by simp [hm]
  obtain ⟨hl2, h2'⟩ := h2
  rcases h2' with ⟨rfl, h0⟩ | ⟨g, cap, cur, rfl, -, hg, hncap, hcap63, hcs, htake⟩
  · have hx0 : xs = [] := List.eq_nil_of_length_eq_zero (by omega)
    have hy0 : ys = [] := List.eq_nil_of_length_eq_zero (by omega)
    subst hx0 hy0
    exact ⟨none, 0, [], w', hrun, SlO.nil, fun _ => List.nodup_nil, fun g hg => by simp at hg, hOnly⟩
  · -- the old elements' blocks, by choice of the elder row's
    obtain ⟨Fs, hFl, hFow, hFk, hFnd⟩ : ∃ Fs : List (List Nat), Fs.length = xs.length ∧ (∀ i x f, xs[i]? = some x → Fs[i]? = some f → T.ow w ((cells.drop (i * T.size)).take T.size) x f) ∧
        (∀ k ∈ Fs.flatten, k ∈ F ∧ some k ≠ Value.ownBlock (.slice A xs.length c)) ∧ Fs.flatten.Nodup := by
      rcases hcase with ⟨rfl, rfl, rfl, rfl⟩ | ⟨g0, Fs, rfl, rfl, hr⟩
      · exact ⟨[], rfl, fun i x f hx => by simp at hx, fun k hk => by simp at hk, by simp⟩
      · have hlen := hr.len
        obtain ⟨h1, h2, cur0, hcur, hs, hc⟩ := hr
        refine ⟨Fs, hlen, fun i x f hx hf => ?_, fun k hk => ⟨List.mem_cons_of_mem _ hk, fun e => ?_⟩, (List.nodup_cons.1 hF).2⟩
        · obtain ⟨hc1, hc2⟩ := hrow
          rcases hc2 with ⟨e, _⟩ | ⟨g1, cap1, cur1, e, _, hg1, _, _, _, ht1⟩
          · cases e
          · injection e with e1 e2 e3
            injection e1 with e1
            injection e1 with e1
            subst e1
            rw [hcur] at hg1
            injection hg1 with hg1
            injection hg1 with hg1
            subst hg1
            have hil : i < xs.length := (List.getElem?_eq_some_iff.1 hx).1
            have hmul : i * T.size + T.size ≤ xs.length * T.size := by
              have := Nat.mul_le_mul_right T.size hil
              rwa [Nat.succ_mul] at this
            rw [← drop_take_of_take ht1 hmul]
            exact hc i x f hx hf
        · simp [Value.ownBlock] at e
          subst e
          exact (List.nodup_cons.1 hF).1 hk
    have hltF : ∀ k ∈ Fs.flatten, k < w.heap.size := by
      intro k hk
      obtain ⟨f, hf, hkf⟩ := List.mem_flatten.1 hk
      obtain ⟨j, hj, rfl⟩ := List.mem_iff_getElem.1 hf
      exact T.lt (hFow j xs[j] Fs[j] (List.getElem?_eq_getElem (by omega)) (List.getElem?_eq_getElem hj)) k hkf
    have hltG : ∀ k ∈ Gs.flatten, k < w.heap.size := by
      intro k hk
      obtain ⟨f, hf, hkf⟩ := List.mem_flatten.1 hk
      obtain ⟨j, hj, rfl⟩ := List.mem_iff_getElem.1 hf
      exact T.lt (how j (ys[j]'(by omega)) Gs[j] (List.getElem?_eq_getElem (by omega)) (List.getElem?_eq_getElem hj)) k hkf
    have hgnew : g = w.heap.size ∨ Value.ownBlock (.slice A xs.length c) = some g := by
      rcases h5 with h5 | h5
      · right; rw [← h5]; simp [Value.ownBlock]
      · left; simpa [Value.ownBlock] using h5
    have hcl := hrow.1
    refine ⟨some ⟨g, 0, none⟩, cap, g :: (Fs ++ Gs).flatten, w', by rw [hlen']; exact hrun, ⟨by simpa only [maxLen] using hcap63, .inr ⟨g, Fs ++ Gs, rfl, rfl, ⟨by omega, by simp [hFl, hG, hm], cur, hg, hcs, ?_⟩⟩⟩, ?_, ?_, hOnly⟩
    · intro j x f hx hf
      have hjl : j < xs.length + m := by have := (List.getElem?_eq_some_iff.1 hx).1; omega
      have hmul : j * T.size + T.size ≤ (xs.length + m) * T.size := by
        have := Nat.mul_le_mul_right T.size hjl
        rwa [Nat.succ_mul] at this
      rw [drop_take_of_take htake hmul]
      by_cases hj : j < xs.length
      · rw [List.getElem?_append_left hj] at hx
        rw [List.getElem?_append_left (by omega)] at hf
        have hmul2 : j * T.size + T.size ≤ xs.length * T.size := by
          have := Nat.mul_le_mul_right T.size hj
          rwa [Nat.succ_mul] at this
        have e : ((cells ++ news).drop (j * T.size)).take T.size = (cells.drop (j * T.size)).take T.size := by
          rw [List.drop_append_of_le_length (by omega), List.take_append_of_le_length (by simp; omega)]
        rw [e]
        exact T.stay (fun k hk => hkeep k (hltF k (mem_flat hf hk)) (hFk k (mem_flat hf hk)).2) (hFow j x f hx hf)
      · rw [List.getElem?_append_right (by omega)] at hx
        rw [List.getElem?_append_right (by omega), hFl] at hf
        have e : ((cells ++ news).drop (j * T.size)).take T.size = (news.drop ((j - xs.length) * T.size)).take T.size := by
          have hle : cells.length ≤ j * T.size := by rw [hcl]; exact Nat.mul_le_mul_right _ (by omega)
          rw [List.drop_append, List.drop_eq_nil_of_le hle, List.nil_append, hcl, Nat.sub_mul]
        rw [e]
        refine T.stay (fun k hk => hkeep k (hltG k (mem_flat hf hk)) (fun e => ?_)) (how _ x f hx hf)
        exact hdis k (hblk k e.symm) (mem_flat hf hk)
    · intro hGn
      rw [List.flatten_append, List.nodup_cons]
      refine ⟨fun hk => ?_, List.nodup_append.2 ⟨hFnd, hGn, fun a ha b hb e => ?_⟩⟩
      · rcases List.mem_append.1 hk with hk | hk
        · rcases hgnew with e | e
          · have := hltF g hk; omega
          · exact (hFk g hk).2 e.symm
        · rcases hgnew with e | e
          · have := hltG g hk; omega
          · exact hdis g (hblk g e) hk
      · subst e
        exact hdis a (hFk a ha).1 hb
    · intro k hk
      rcases List.mem_cons.1 hk with rfl | hk
      · rcases hgnew with e | e
        · exact .inr (.inr e)
        · exact .inl (hblk _ e)
      · rw [List.flatten_append, List.mem_append] at hk
        rcases hk with hk | hk
        · exact .inl (hFk k hk).1
        · exact .inr (.inl hk)
/-- For the walk: behind 'at_builtin'. -/
theorem wpList_push {ops : Array Oper} {rest : List Oper} {o : Oper} {a : Act} {Q : Exit → Act → World → Prop} (hgd : o.guard = none) (s x : Operand) (t : TypeId)
    (ho : o.op = .call { callee := .builtin .append, args := #[s, x], argTypes := #[t, t] })
    {z : Value} {bytes : Nat} (inf : Inf P T z bytes) (ht : P.underlying t = some (.slice T.id)) (A : Option Addr) (c : Nat) (xs : List α) (F : List Nat) (hs : a.eval s = .slice A xs.length c) (hown : SlO T w A c xs F) (hF : F.Nodup)
    (ad : Addr) (m c2 : Nat) (hx : a.eval x = .slice (some ad) m c2) (ys : List α) (news : List Value) (Gs : List (List Nat)) (hm : ys.length = m) (hG : Gs.length = m) (hl : news.length = m * T.size) (hnews : ∀ j u, news[j]? = some u → w.cell? (ad.add j) = some u)
    (hone : ∀ u ∈ news, u.oneCell' = true) (how : ∀ i y f, ys[i]? = some y → Gs[i]? = some f → T.ow w ((news.drop (i * T.size)).take T.size) y f)
    (hlim : xs.length + m ≤ 1099511627776) (hbytes : bytes ≤ 128) (hdis : ∀ g ∈ F, g ∉ Gs.flatten)
    (h : ∀ A' c' F' w', SlO T w' A' c' (xs ++ ys) F' → (Gs.flatten.Nodup → F'.Nodup) → (∀ g ∈ F', g ∈ F ∨ g ∈ Gs.flatten ∨ g = w.heap.size) → Only F w w' → wpList P ops Q rest (a.put o.dst (.slice A' (xs ++ ys).length c')) w') :
    wpList P ops Q (o :: rest) a w := by
  refine wpList_plain hgd fun K hK => ?_
  obtain ⟨A', c', F', w', hr, h2, h3, h4, h5⟩ := run_push (P := P) inf t o.type ht hown hF ad m c2 news Gs hm hG hl hnews hone how hlim hbytes hdis
  unfold Oper.wp execOp
  simp only [ho, resolve, invoke, builtin, Sem.run_bind, Sem.run_pure, Result.andThen_ok, List.map_toArray, List.map_cons, List.map_nil, hs, hx, hr]
  exact hK _ _ (h A' c' F' w' h2 h3 h4 h5)
/-- One element of one cell that owns no block: 'append(s, x)' of ints, bools. -/
theorem wpList_push1 {ops : Array Oper} {rest : List Oper} {o : Oper} {a : Act} {Q : Exit → Act → World → Prop} (hgd : o.guard = none) (s x : Operand) (t : TypeId)
    (ho : o.op = .call { callee := .builtin .append, args := #[s, x], argTypes := #[t, t] })
    {z : Value} {bytes : Nat} (inf : Inf P T z bytes) (hbytes : bytes ≤ 128) (hs1 : T.size = 1) (ht : P.underlying t = some (.slice T.id)) (A : Option Addr) (c : Nat) (xs : List α) (F : List Nat) (hs : a.eval s = .slice A xs.length c) (W : World) (u : Value) (te : TypeId) (hW : w = W.alloc (.cells #[u] te)) (hown : SlO T W A c xs F) (hF : F.Nodup)
    (hx : a.eval x = .slice (some ⟨W.heap.size, 0, none⟩) 1 1) (y : α) (G : List Nat) (how : T.ow W [u] y G) (hGn : G.Nodup) (hdis : ∀ g ∈ F, g ∉ G) (hlim : xs.length < 1099511627776)
    (h : ∀ A' c' F' w', SlO T w' A' c' (xs ++ [y]) F' → F'.Nodup → (∀ g ∈ F', g ∈ F ∨ g ∈ G ∨ W.heap.size ≤ g) → Only F W w' → wpList P ops Q rest (a.put o.dst (.slice A' (xs ++ [y]).length c')) w') :
    wpList P ops Q (o :: rest) a w := by
  subst hW
  refine wpList_push hgd s x t ho inf ht A c xs F hs (hown.alloc _) hF ⟨W.heap.size, 0, none⟩ 1 1 hx [y] [u] [G] rfl rfl (by rw [hs1]; rfl) (cell_one_new _ _ _) (T.one how) ?_ (by omega) hbytes (by simpa using hdis) ?_
  · intro i y' f hy hf
    match i with
    | 0 =>
      simp at hy hf
      subst hy hf
      rw [hs1, Nat.zero_mul, List.drop_zero, List.take_of_length_le (by simp)]
      exact T.stay (fun g hg => Below.heap_alloc _ _ _ (T.lt how g hg)) how
    | i + 1 => simp at hy
  · intro A' c' F' w' h1 h2 h3 h4
    refine h A' c' F' w' h1 (h2 (by simpa using hGn)) (fun g hg => ?_) ((Only.of_below (below1 W _)).trans (h4.mono fun k hk => .inl hk))
    rcases h3 g hg with h | h | h
    · exact .inl h
    · exact .inr (.inl (by simpa using h))
    · refine .inr (.inr ?_)
      rw [h]
      simp
end
theorem inf_int : Inf Try.prog intT (.int .i64 0) 8 := inf_of (by kernel_rfl) rfl
theorem inf_bool : Inf Try.prog boolT (.bool false) 1 := inf_of (by kernel_rfl) rfl
end Go.Proofs.Ytfgdcjpclngeaaa
