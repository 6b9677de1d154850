/-
  Appends. Plain lemmas, about no function of the program.
  Conditions: those typed in each theorem.
-/
import Derived.Test.YtdliejnmpdodhaaVh
namespace Go.Proofs.Ytdliejnmpdodhaa
open Go.RowKit Go.ChangeShapes Go.WideShapes
set_option linter.unusedVariables false

section
variable {P : Program} {w0 : Base} {w w' : World} {φ φ' : Hdrs} {σ : St} {a : Act} {sl sl' : List Slot} {Fs Fs' : List (List Nat)}
theorem seg_take {l p : List Value} {n i s : Nat} (h : l.take n = p) (hi : i + s ≤ n) : (l.drop i).take s = (p.drop i).take s := by
  subst h
  apply List.ext_getElem?
  intro j
  simp only [List.getElem?_take, List.getElem?_drop]
  split
  · rw [if_pos (by omega)]
  · rfl
/-- Elements put behind a row's. -/
theorem row_push {R : List D → List Value → List Nat → Prop} {R' : World → List D → List Value → List Nat → Prop} {t ty e : TypeId} {z : List V} {es es2 : List (List D)} {A : Option Nat} {c m c2 : Nat} {F : List Nat} {ad : Addr} {news : List Value} {Gs : List (List Nat)}
    (ht : elemOf P t = some e) (hz : zeroV P e = some z) (hz0 : P.cellsOf e ≠ 0) (hb : P.bytesOf e ≤ 128) (hr : RowOf P w R e es A c F) (hm : es2.length = m) (hG : Gs.length = m) (hl : news.length = m * P.cellsOf e)
    (hnews : ∀ j u, news[j]? = some u → w.cell? (ad.add j) = some u) (hone : ∀ u ∈ news, u.oneCell' = true) (hel : ∀ x ∈ es2, x.length = P.cellsOf e) (how : ∀ i x f, es2[i]? = some x → Gs[i]? = some f → R x ((news.drop (i * P.cellsOf e)).take (P.cellsOf e)) f)
    (hlim : es.length + m ≤ 1099511627776) (hold : ∀ w', Only A.toList w w' → ∀ e cs f, (∀ q ∈ f, q ∈ F ∨ q ∈ Gs.flatten) → (∀ q ∈ f, A = some q → (F.count q + Gs.flatten.count q) ≤ 1 → False) → R e cs f → R' w' e cs f) (hnd : ∀ q, F.count q + Gs.flatten.count q ≤ 1) :
    ∃ (A' : Option Nat) (c' : Nat) (w' : World) (F' : List Nat), (Builtin.append_ #[t, t] ty #[.slice (hdr A) es.length c, .slice (some ad) m c2]).run P w = .ok (.slice (hdr A') (es ++ es2).length c') w' ∧ Only A.toList w w' ∧
      (∀ g, A' = some g → A = some g ∨ g = w.heap.size) ∧ RowOf P w' (R' w') e (es ++ es2) A' c' F' ∧ ∀ q, F'.count q ≤ F.count q + Gs.flatten.count q + (if q = w.heap.size then 1 else 0) := by
  obtain ⟨i, v, k1, k2, k3, k4, k5, _⟩ := zeroV_some hz
  have hcz := zeroV_cells hz
  have hby : i.bytes ≤ 128 := by simpa [Program.bytesOf, k1] using hb
  have hsz : i.size = P.cellsOf e := by rw [k4, hcz]
  obtain ⟨r1, r2, hcase⟩ := hr
  -- the cells that are there
  obtain ⟨cells, hrow⟩ : ∃ cells : List Value, w.ownsRow 0 e (P.cellsOf e) (.slice (hdr A) es.length c) es.length cells := by
    rcases hcase with ⟨rfl, rfl, rfl⟩ | ⟨g, cur, Gs0, rfl, h3, h4, h5, h6, h7, rfl⟩
    · obtain rfl : es = [] := List.eq_nil_of_length_eq_zero (by omega)
      exact ⟨[], by simp, .inl ⟨rfl, rfl⟩⟩
    · have hle : es.length * P.cellsOf e ≤ c * P.cellsOf e := Nat.mul_le_mul_right _ r2
      have hcl : cur.toList.length = c * P.cellsOf e := by simpa using h4
      exact ⟨cur.toList.take (es.length * P.cellsOf e), by rw [List.length_take, hcl]; exact Nat.min_eq_left hle, .inr ⟨g, c, cur, rfl, Nat.zero_le _, h3, r2, by simp only [maxLen]; omega, h4, rfl⟩⟩
  have hbb : (es.length + m) * i.bytes ≤ 140737488355328 := Nat.le_trans (Nat.mul_le_mul hlim hby) (by omega)
  obtain ⟨v', w', hrun, q2, q3, _, q5⟩ := run_append_own_at (P := P) w 0 t ty e i v (P.cellsOf e) i.bytes (elemOf_some ht) k1 k2 hsz rfl (by rw [k5, hsz]) (by omega) _ _ _ hrow ad m c2 news hl hnews hone (by simp only [maxLen]; omega) hbb (Nat.zero_le _)
  have hOnly : Only A.toList w w' := ⟨q3.os, q3.tape, q3.output, q3.size, fun k hk hn => q3.block k hk (fun e => hn (by
    cases A with
    | none => simp [Value.ownBlock] at e
    | some g => simp [Value.ownBlock] at e; simp [e]))⟩
  have hlen' : (es ++ es2).length = es.length + m := by simp [hm]
  obtain ⟨hl2, q2'⟩ := q2
  rcases q2' with ⟨rfl, h0⟩ | ⟨g', cap, cur', rfl, -, hg, hncap, hcap63, hcs, htake⟩
  · have hx0 : es = [] := List.eq_nil_of_length_eq_zero (by omega)
    have hy0 : es2 = [] := List.eq_nil_of_length_eq_zero (by omega)
    subst hx0 hy0
    exact ⟨none, 0, w', [], hrun, hOnly, by simp, ⟨by omega, by simp, .inl ⟨rfl, rfl, rfl⟩⟩, by simp⟩
  · have hA' : A = some g' ∨ g' = w.heap.size := by
      rcases q5 with q5 | q5
      · left
        cases A with
        | none => simp [Value.ownBlock] at q5
        | some g => simp [Value.ownBlock] at q5; rw [q5]
      · right; simpa [Value.ownBlock] using q5
    obtain ⟨Gs0, hGl, hG0, hGF⟩ : ∃ Gs0 : List (List Nat), Gs0.length = es.length ∧ (∀ i x f, es[i]? = some x → Gs0[i]? = some f → R x ((cells.drop (i * P.cellsOf e)).take (P.cellsOf e)) f ∧ x.length = P.cellsOf e) ∧
        (∀ q, Gs0.flatten.count q + (if A = some q then 1 else 0) ≤ F.count q) := by
      rcases hcase with ⟨rfl, rfl, rfl⟩ | ⟨g, cur, Gs0, rfl, h3, h4, h5, h6, h7, rfl⟩
      · obtain rfl : es = [] := List.eq_nil_of_length_eq_zero (by omega)
        exact ⟨[], rfl, fun i x f hx => by simp at hx, by simp⟩
      · refine ⟨Gs0, h5, fun i x f hx hf => ⟨?_, h6 x (List.mem_of_getElem? hx)⟩, fun q => ?_⟩
        · have hil : i < es.length := (List.getElem?_eq_some_iff.1 hx).1
          obtain ⟨_, hc2⟩ := hrow
          rcases hc2 with ⟨e1, _⟩ | ⟨g1, cap1, cur1, e1, _, hg1, _, _, _, ht1⟩
          · cases e1
          · injection e1 with e1 e2 e3
            injection e1 with e1
            injection e1 with e1
            subst e1
            rw [h3] at hg1
            injection hg1 with hg1
            injection hg1 with hg1
            subst hg1
            rw [← seg_take ht1 (mul_seg' hil _)]
            exact h7 i x f hx hf
        · rw [List.count_cons]
          by_cases hq : g = q
          · subst hq; simp
          · have : ¬ (some g = some q) := fun e => hq (Option.some.inj e)
            rw [if_neg this, if_neg (by simpa using hq)]
            omega
    have hcl := hrow.1
    refine ⟨some g', cap, w', g' :: (Gs0 ++ Gs).flatten, by rw [hlen']; exact hrun, hOnly, fun g hg => by cases hg; exact hA', ⟨by simpa only [maxLen] using hcap63, by omega, .inr ⟨g', cur', Gs0 ++ Gs, rfl, hg, hcs, by simp [hGl, hG, hm], fun x hx => ?_, fun j x f hx hf => ?_, rfl⟩⟩, fun q => ?_⟩
    · rcases List.mem_append.1 hx with hx | hx
      · obtain ⟨i, hi, rfl⟩ := List.mem_iff_getElem.1 hx
        exact (hG0 i _ (Gs0[i]'(by omega)) (List.getElem?_eq_getElem hi) (List.getElem?_eq_getElem _)).2
      · exact hel x hx
    · have hjl : j < es.length + m := by have := (List.getElem?_eq_some_iff.1 hx).1; omega
      have noA : ∀ {f : List Nat}, (∀ q ∈ f, 1 ≤ Gs0.flatten.count q + Gs.flatten.count q) → ∀ q ∈ f, A = some q → (F.count q + Gs.flatten.count q) ≤ 1 → False := by
        intro f hf q hq hA h1
        have h2 := hGF q
        have h3 := hf q hq
        rw [if_pos hA] at h2
        omega
      rw [seg_take htake (mul_seg' hjl _)]
      by_cases hj : j < es.length
      · rw [List.getElem?_append_left hj] at hx
        rw [List.getElem?_append_left (by omega)] at hf
        have hseg := mul_seg' hj (P.cellsOf e)
        have e1 : ((cells ++ news).drop (j * P.cellsOf e)).take (P.cellsOf e) = (cells.drop (j * P.cellsOf e)).take (P.cellsOf e) := by
          rw [List.drop_append_of_le_length (by omega), List.take_append_of_le_length (by simp; omega)]
        rw [e1]
        have hcnt : ∀ q ∈ f, 1 ≤ Gs0.flatten.count q := fun q hq => List.count_pos_iff.2 (mem_flat hf hq)
        refine hold w' hOnly _ _ _ (fun q hq => .inl (List.count_pos_iff.1 ?_)) (noA fun q hq => by have := hcnt q hq; omega) (hG0 j x f hx hf).1
        have h1 := hcnt q hq
        have h2 := hGF q
        omega
      · rw [List.getElem?_append_right (by omega)] at hx
        rw [List.getElem?_append_right (by omega), hGl] at hf
        have e1 : ((cells ++ news).drop (j * P.cellsOf e)).take (P.cellsOf e) = (news.drop ((j - es.length) * P.cellsOf e)).take (P.cellsOf e) := by
          have hle : cells.length ≤ j * P.cellsOf e := by rw [hcl]; exact Nat.mul_le_mul_right _ (by omega)
          rw [List.drop_append, List.drop_eq_nil_of_le hle, List.nil_append, hcl, Nat.sub_mul]
        rw [e1]
        have hcnt : ∀ q ∈ f, 1 ≤ Gs.flatten.count q := fun q hq => List.count_pos_iff.2 (mem_flat hf hq)
        exact hold w' hOnly _ _ _ (fun q hq => .inr (mem_flat hf hq)) (noA fun q hq => by have := hcnt q hq; omega) (how _ x f hx hf)
    · have h2 := hGF q
      rw [List.flatten_append, List.count_cons, List.count_append]
      by_cases hq : g' = q
      · subst hq
        rcases hA' with h | h
        · rw [if_pos h] at h2; simp; omega
        · rw [← h]; simp; omega
      · rw [if_neg (by simpa using hq)]
        omega
end
end Go.Proofs.Ytdliejnmpdodhaa
