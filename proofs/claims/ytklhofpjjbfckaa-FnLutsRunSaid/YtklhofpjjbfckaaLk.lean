/-
  Words for the walks of ToLuts, on both sides.
  Conditions: those typed in each theorem.
-/
import Derived.Test.YtklhofpjjbfckaaLg
namespace Go.Proofs.Ytklhofpjjbfckaa
open Go.RowKit Go.ChangeShapes Go.WideShapes
set_option linter.unusedVariables false
set_option linter.unusedSimpArgs false
def luC (L : List LutD) (k : Nat) : V := if L = [] then .nil 132 else .ref k
def luS (L : List LutD) : List Slot := if L = [] then [] else [.arr 132 true (L.map enLut)]
abbrev bR (s : List Bool) : Slot := .arr 4 true (s.map (e1 eBool))
abbrev iR (s : List Int) : Slot := .arr 3 true (s.map (e1 eInt))
abbrev zNet : Slot := .var 80 [.d (.int .i64 0), .nil 31, .nil 132, .nil 3]
theorem evM_even {rs : List Int} {s : List Bool} {j : Nat} {y : Int} (h : rs[j]? = some y) (he : y % 2 = 0) : evM rs s (j + 1) = (evM rs s j).set (y / 2).toNat true ∧ odM rs s (j + 1) = odM rs s j := by
  have : atI rs j = y := atI_get h
  constructor
  · show (if atI rs j % 2 = 0 then (evM rs s j).set (atI rs j / 2).toNat true else evM rs s j) = _
    rw [this, if_pos he]
  · show (if atI rs j % 2 = 0 then odM rs s j else (odM rs s j).set (atI rs j / 2).toNat true) = _
    rw [this, if_pos he]
theorem evM_odd {rs : List Int} {s : List Bool} {j : Nat} {y : Int} (h : rs[j]? = some y) (he : ¬ y % 2 = 0) : evM rs s (j + 1) = evM rs s j ∧ odM rs s (j + 1) = (odM rs s j).set (y / 2).toNat true := by
  have : atI rs j = y := atI_get h
  constructor
  · show (if atI rs j % 2 = 0 then (evM rs s j).set (atI rs j / 2).toNat true else evM rs s j) = _
    rw [this, if_neg he]
  · show (if atI rs j % 2 = 0 then odM rs s j else (odM rs s j).set (atI rs j / 2).toNat true) = _
    rw [this, if_neg he]
theorem map_ev {x : GrD} {cs : List RowD} (hm : mapOkB x cs = true) {i n : Nat} {c : RowD} (hc : cs[i]? = some c) (hu : (getB (posL x cs) (firstG x + i) || getB (ngM x) (firstG x + i)) = true) (h : i ≤ n) (hn : n ≤ cs.length) :
    c.map (atI (evI (firstG x) (grN x) (posL x cs) n)) = c.map (plN (firstG x) (posL x cs)) := by
  obtain ⟨hok, hl, hcs⟩ := mapOk_of hm
  have hN := grN_eq x
  apply List.map_congr_left
  intro y hy
  obtain ⟨y0, y1⟩ := cut_below hm hc y hy
  have hp := pos_closed hm hc hu y hy
  obtain ⟨v, rfl⟩ : ∃ v : Nat, y = v := ⟨y.toNat, by omega⟩
  rw [Int.toNat_natCast] at hp
  exact evI_at (.inl hp) n (by omega) (by omega)
def sqC (q k : Nat) : V := if q = 0 then .nil 31 else .ref k
def sqS (q : Nat) (xs : List SeqD) : List Slot := if q = 0 then [] else [.arr 31 true (xs.map enSeq)]
theorem seq_ne {s : SeqD} (h : seqOkB s = true) : s.2.2 ≠ [] := fun e => by
  unfold seqOkB at h
  rw [e] at h
  split at h
  · simp at h
  · split at h <;> simp at h
theorem rtV_eq {x : GrD} {cs : List RowD} (hm : mapOkB x cs = true) {y : Int} (hy : y ∈ grRoots x) : rtV (evI (firstG x) (grN x) (posL x cs) cs.length) (ngP x cs (grN x)) y = rtP x cs y := by
  obtain ⟨hok, hl, hcs⟩ := mapOk_of hm
  have hr := rootsN_in hok y hy
  have hN := grN_eq x
  unfold rtV rtP
  split
  · rename_i he
    have hp := pos_root (cs := cs) hok hy he
    obtain ⟨v, hv⟩ : ∃ v : Nat, y / 2 = v := ⟨(y / 2).toNat, by omega⟩
    rw [hv, Int.toNat_natCast] at hp
    rw [hv]
    exact evI_at (.inl hp) cs.length (by omega) (by omega)
  · rfl
end Go.Proofs.Ytklhofpjjbfckaa
