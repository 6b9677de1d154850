/-
  How the arguments of a law, as the row reads them, are opened: from the row's reading to 'SlR'. Plain lemmas.
  Conditions: those typed in each theorem.
-/
import Derived.Test.YtfgdcjpclngeaaaMem
namespace Go.Proofs.Ytfgdcjpclngeaaa
open Go.RowKit Go.ChangeShapes Go.WideShapes Go.ChangeAt Go.Deep Go.Joins

/-- Whatever the row reads at type t reads as data of α. -/
def Opens {α : Type} (P : Program) (T : Ty α) (t : TypeId) : Prop :=
  ∀ {H : Type} {enc : TypeId × Value → H} {W : World} {B fuel : Nat} {cs : List Value} {x : DataW H × List MemPlace},
    DataW.trod enc P W 0 (fun _ => true) true fuel t cs = some x → (∀ p ∈ x.2, p.block < B) → ∃ d, T.rd W B cs d

theorem opens_int {P : Program} {t : TypeId} (ht : P.underlying t = some (.int .i64)) : Opens P intT t := fun h _ => by
  obtain ⟨n, rfl, _, _⟩ := DataW.trod_int ht h
  exact ⟨n, rfl⟩
theorem opens_bool {P : Program} {t : TypeId} (ht : P.underlying t = some .bool) : Opens P boolT t := fun h _ => by
  obtain ⟨n, rfl, _⟩ := DataW.trod_bool ht h
  exact ⟨n, rfl⟩
theorem spot_none {w : World} {a : Addr} {u : Value} (h : w.cell? a = some u) : a.spot = none := by
  unfold World.cell? at h
  split at h
  · split at h
    · cases h
    · rename_i hs
      cases hp : a.spot with
      | none => rfl
      | some q => rw [hp] at hs; simp at hs
  · cases h
theorem opens_slice {α : Type} {P : Program} {T : Ty α} {id t e : TypeId} (ht : P.underlying t = some (.slice e)) (hC : P.cellsOf e = T.size) (hT : Opens P T e) : Opens P (slT id T) t := by
  intro H enc W B fuel cs x h hlt
  rcases open_slice ht h with ⟨rfl, rfl⟩ | ⟨a, len, cap, m, n, D, Pl, rfl, hb, hl, hm, hmm, hx, hi⟩
  · exact ⟨[], none, 0, rfl, SlR.nil⟩
  · have hm' : m = cap := hmm
    subst hm'
    have hlen63 : len ≤ 9223372036854775807 := by simp only [maxLen] at hm; omega
    have hpos := T.pos
    have hpl : ∀ i, i < m → ∀ p ∈ Pl i, p.block < B := by
      intro i him p hp
      refine hlt p ?_
      rw [hx]
      simp only [List.mem_append, List.mem_flatMap, List.mem_range]
      exact .inr ⟨i, him, hp⟩
    -- the elements
    have helem : ∀ i, i < len → ∃ d cs', W.cells? 0 (a.add (i * P.cellsOf e)) (P.cellsOf e) = some cs' ∧ T.rd W B cs' d := by
      intro i hil
      obtain ⟨cs', hc, ht'⟩ := hi i (by omega)
      obtain ⟨d, hd⟩ := hT ht' (fun p hp => hpl i (by omega) p hp)
      exact ⟨d, cs', hc, hd⟩
    refine ⟨(List.range len).pmap (fun i hi => Classical.choose (helem i hi)) (fun i hi => by simpa using hi), some a, m, by simp, by simpa using hlen63, fun hn => ?_⟩
    have hn' : 0 < len := by simpa using hn
    have hblk : a.block < B := by
      have : MemPlace.cell a.block a.off ∈ x.2 := by
        rw [hx]
        simp only [List.mem_append]
        left
        rw [MemPlace.row]
        simp only [List.mem_map, List.mem_range]
        exact ⟨0, Nat.mul_pos (by omega) (by rw [hC]; exact hpos), by simp⟩
      exact hlt _ this
    have hspot : a.spot = none := by
      obtain ⟨d, cs', hc, hd⟩ := helem 0 hn'
      obtain ⟨_, hcl, hat⟩ := World.cells?_some hc
      have h0 := hat 0 (by rw [hC]; exact hpos)
      have hcl' : 0 < cs'.length := by rw [hcl, hC]; exact hpos
      rw [List.getElem?_eq_getElem hcl'] at h0
      have := spot_none h0
      simpa [Addr.add] using this
    obtain ⟨b, o, sp⟩ := a
    simp only at hspot
    subst hspot
    refine ⟨b, o, rfl, hblk, fun i y hy => ?_⟩
    rw [List.getElem?_pmap] at hy
    simp only [Option.pmap_eq_some_iff] at hy
    obtain ⟨i', h1, hy0, hy⟩ := hy
    have hil : i < len := by
      by_cases hil : i < len
      · exact hil
      · rw [List.getElem?_eq_none (by simp; omega)] at hy0; cases hy0
    rw [List.getElem?_range hil] at hy0
    obtain rfl := Option.some.inj hy0
    obtain ⟨cs', hc, hd⟩ := Classical.choose_spec (helem i hil)
    obtain ⟨_, hcl, hat⟩ := World.cells?_some hc
    refine ⟨cs', fun j u hu => ?_, ?_⟩
    · have hj : j < P.cellsOf e := by rw [← hcl]; exact (List.getElem?_eq_some_iff.1 hu).1
      have := hat j hj
      rw [hu, hC] at this
      have e1 : ((⟨b, o, none⟩ : Addr).add (i * T.size)).add j = ⟨b, o + i * T.size + j, none⟩ := by
        rw [Go.Deep.add_add]
        unfold Addr.add
        split
        · rename_i h0
          rw [Nat.add_assoc, h0, Nat.add_zero]
        · rw [Nat.add_assoc]
      rw [e1] at this
      exact this
    · subst hy
      exact hd

/-- A slice argument. -/
theorem open_sl {α : Type} {T : Ty α} {id t e : TypeId} {P : Program} (ht : P.underlying t = some (.slice e)) (hC : P.cellsOf e = T.size) (hT : Opens P T e) {H : Type} {enc : TypeId × Value → H} {W : World} {base : Nat} {v : Value} {d : DataW H} {p : List MemPlace}
    (hv : Value.okWide P W .any base t v) (h : DataW.Trod enc P W 0 (fun _ => true) true t v d p) (hlt : ∀ x ∈ p, x.block < W.heap.size) : ∃ A xs c, v = .slice A (xs : List α).length c ∧ SlR T W W.heap.size A xs := by
  obtain ⟨a0, len, cap, rfl⟩ := okWide_slice ht hv
  obtain ⟨fuel, hf⟩ := h
  obtain ⟨xs, A, c, h1, h2⟩ := opens_slice (id := id) ht hC hT hf hlt
  have h1' : [Value.slice a0 len cap] = [.slice A xs.length c] := h1
  simp only [List.cons.injEq, and_true] at h1'
  exact ⟨A, xs, c, h1', h2⟩

theorem cells_int : Try.prog.cellsOf 3 = 1 := by kernel_rfl
theorem cells_bool : Try.prog.cellsOf 4 = 1 := by kernel_rfl
theorem op_int : Opens Try.prog intT 3 := opens_int Try.underlying3
theorem op_bool : Opens Try.prog boolT 4 := opens_bool Try.underlying4
section
variable {H : Type} {enc : TypeId × Value → H} {W : World} {base : Nat} {v : Value} {d : DataW H} {p : List MemPlace}
end
end Go.Proofs.Ytfgdcjpclngeaaa
