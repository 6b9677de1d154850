/-
  The laws of LutNodes and LutNetOk: each call returns true, at every input.
  Conditions: none.
-/
import Derived.Test.YtmengbppepeddaaWd
import Derived.Test.YtmengbppepeddaaNe
namespace Go.Proofs.Ytmengbppepeddaa
open Go.RowKit Go.ChangeShapes Go.WideShapes Go.ChangeAt
set_option linter.unusedVariables false
set_option linter.unusedSimpArgs false
theorem fit_of {w : World} {G : Nat → Prop} {s l : TypeId} {x : NetD} {v : Value} (h : XRd w G (.agg (enNet s l x)) v) : fitNet 9223372036854775807 x := by
  cases h with
  | agg h =>
    obtain ⟨_, h1⟩ := h.cell (d := eSl s enSeq x.2.1) (by simp [enNet, e4])
    obtain ⟨_, h2⟩ := h.cell (d := eSl l enLut x.2.2.1) (by simp [enNet, e4])
    obtain ⟨_, h3⟩ := h.cell (d := eSl 3 (e1 eInt) x.2.2.2) (by simp [enNet, e4])
    refine ⟨h1.fit, fun q hq => ?_, h2.fit, fun q hq => ?_, h3.fit⟩
    · obtain ⟨_, h4⟩ := h1.sub (enSeq q) (List.mem_map_of_mem hq) (eSl 3 (e1 eInt) q.2.2) (by simp [enSeq, e3])
      exact h4.fit
    · obtain ⟨_, h4⟩ := h2.sub (enLut q) (List.mem_map_of_mem hq) (eSl 3 (e1 eInt) q.1) (by simp [enLut, e2])
      exact h4.fit
theorem fit_sz {x : NetD} {m : Nat} (h : 0 ≤ szNetL x m) : fitNet m x := by
  unfold szNetL at h
  split at h
  · omega
  rename_i h1
  split at h
  · omega
  rename_i h2
  obtain ⟨a1, a2⟩ := szS_fit (fun x l => szSeqL_le x l) (Int.not_lt.1 h1)
  obtain ⟨b1, b2⟩ := szS_fit (fun x l => szLutL_le x l) (Int.not_lt.1 h2)
  have c1 := szL_fit h
  have d1 := szS_le szSeqL_le x.2.1 m (by omega)
  have d2 := szS_le szLutL_le x.2.2.1 (szS szSeqL x.2.1 m) (by omega)
  refine ⟨by omega, fun s hs => ?_, by omega, fun s hs => ?_, by omega⟩
  · obtain ⟨q, q1, q2, q3⟩ := a2 s hs
    have := szL_fit q3
    omega
  · obtain ⟨q, q1, q2, q3⟩ := b2 s hs
    unfold szLutL at q3
    have := szL_or s.1.length q
    have := szL_fit (n := s.1.length) (l := q) (by first | exact q3 | (split at q3 <;> omega) | omega)
    omega
theorem opE_lutnet : OpE Try.prog (enNet 71 73) 26 :=
  ope_4 Try.underlying26 (by kernel_rfl) rfl rfl rfl rfl (by kernel_rfl) (by kernel_rfl) (by kernel_rfl) (by kernel_rfl) (opd_int Try.underlying3)
    (opd_sl Try.underlying22 (by simp) (fun x => by simp [enSeq, e3]) (ope_3 Try.underlying71 (by kernel_rfl) rfl rfl rfl (by kernel_rfl) (by kernel_rfl) (by kernel_rfl) (opd_int Try.underlying3) (opd_int Try.underlying3) (opd_sl Try.underlying24 (by simp) (fun x => by simp [e1]) (ope_1 (opd_int Try.underlying3)))))
    (opd_sl Try.underlying23 (by simp) (fun x => by simp [enLut, e2]) (ope_2 Try.underlying73 (by kernel_rfl) rfl rfl (by kernel_rfl) (by kernel_rfl) (opd_sl Try.underlying24 (by simp) (fun x => by simp [e1]) (ope_1 (opd_int Try.underlying3))) (opd_int Try.underlying3)))
    (opd_sl Try.underlying24 (by simp) (fun x => by simp [e1]) (ope_1 (opd_int Try.underlying3)))
end Go.Proofs.Ytmengbppepeddaa
