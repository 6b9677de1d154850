/-
  Calls that turn slots: what the caller knows behind them. Plain lemmas, about no function of the program.
  Conditions: those typed in each theorem.
-/
import Derived.Test.YtdliejnmpdodhaaVk2
namespace Go.Proofs.Ytdliejnmpdodhaa
open Go.RowKit Go.ChangeShapes Go.WideShapes
set_option linter.unusedVariables false

section
variable {P : Program} {w0 : Base} {w w' : World} {φ φ' φ'' : Hdrs} {σ σ' : St} {a : Act} {sl sl' sl'' : List Slot} {Fs Fs' : List (List Nat)} {π : List Nat} {G G' : Nat → Prop}
theorem later_back {x y z u : Slot} (h : SameS x y) (k : Later y z) (r : renS π z = some u) : Later x u := by
  rcases renS_kind r with ⟨rfl, rfl⟩ | hk
  · cases x <;> first | trivial | (cases y <;> exact h.elim)
  · cases x <;> cases y <;> first | exact h.elim | skip
    · cases z <;> first | exact k.elim | skip
      · cases u <;> exact hk.elim
      · cases u <;> first | exact hk.elim | skip
        obtain ⟨_, rfl⟩ := h
        obtain ⟨_, rfl⟩ := hk
        exact k
    · cases z <;> first | exact k.elim | skip
      · cases u <;> exact hk.elim
      · cases u <;> first | exact hk.elim | trivial
theorem lives_at : ∀ {ys : List Slot}, lives ys → ∀ y ∈ ys, y.live
  | [], _, y, h => by simp at h
  | x :: xs, h, y, hy => by
    rcases List.mem_cons.1 hy with rfl | hy
    · exact h.1
    · exact lives_at h.2 y hy
/-- A callee's state afterwards, put back among the caller's slots. -/
theorem back_turn (hst : w0.st = false) (hm : MemR P w0 φ sl w Fs) (hn : π.Nodup) {slc slc' : List Slot} (hs : leSlots true sl π π slc) (hlv : lives slc) {φ' : Hdrs} {Fc' : List (List Nat)} {R : Nat → Prop}
    (hR : ∀ b, R b ↔ (good w0.R φ sl w b ∨ b ∈ (List.zipWith cutF slc (keepH π Fs [])).flatten ∨ w.heap.size ≤ b))
    {B : Base} (hBw : B.w = w) (hBT : B.T = top (keepH π φ (none, 0)) slc) (hBB : ∀ b, B.B b ↔ b ∈ (List.zipWith cutF slc (keepH π Fs [])).flatten) (hBH : B.H = keepH π φ (none, 0)) (hBR : B.R = R)
    (hmc : MemR P B φ' slc' w' Fc') (hlat : laters slc slc') {ys : List Slot} (hys : renSs (π ++ List.range' sl.length (slc'.length - π.length)) slc' = some ys) :
    ∃ φ'', Turn P w0 φ sl w φ'' (setAll sl π (ys.take π.length) ++ ys.drop π.length) w' ∧ Emb (π ++ List.range' sl.length (slc'.length - π.length)) φ' slc' φ'' (setAll sl π (ys.take π.length) ++ ys.drop π.length) ∧
      ∀ b, good R φ' slc' w' b → good w0.R φ'' (setAll sl π (ys.take π.length) ++ ys.drop π.length) w' b := by
  obtain ⟨s1, s2⟩ := leSlots_at hs
  obtain ⟨y1, y2⟩ := renSs_at hys
  obtain ⟨l1, l2⟩ := laters_at hlat
  have hkl : ∀ k ∈ π, k < sl.length := fun k hk => by
    obtain ⟨i, hi, rfl⟩ := List.mem_iff_getElem.1 hk
    obtain ⟨x, hx, _⟩ := s2 i _ _ (List.getElem?_eq_getElem hi) (List.getElem?_eq_getElem (by omega))
    exact (List.getElem?_eq_some_iff.1 hx).1
  obtain ⟨hg, hl, _⟩ := le_core (st := true) (w0 := { w0 with st := true, rn := by simp }) (G := fun _ => True) rfl ⟨hm.only, hm.tops, hm.flen, hm.Flen, hm.nd, hm.ge, hm.pin, hm.sr⟩ hn hs (fun _ _ => trivial) (by simp)
  have hpl : π.length ≤ slc'.length := by omega
  have htk : (ys.take π.length).length = π.length := by simp; omega
  have hFc' := hmc.Flen
  have hφc' := hmc.flen
  -- names
  have hname : ∀ {i k : Nat}, (π ++ List.range' sl.length (slc'.length - π.length))[i]? = some k → (i < π.length ∧ π[i]? = some k) ∨ (π.length ≤ i ∧ i < slc'.length ∧ k = sl.length + (i - π.length)) := by
    intro i k h
    by_cases hi : i < π.length
    · rw [List.getElem?_append_left hi] at h; exact .inl ⟨hi, h⟩
    · rw [List.getElem?_append_right (by omega)] at h
      have hlt := (List.getElem?_eq_some_iff.1 h).1
      rw [List.length_range'] at hlt
      rw [List.getElem?_range' hlt] at h
      cases h
      exact .inr ⟨by omega, by omega, by omega⟩
  let sl2 := setAll sl π (ys.take π.length) ++ ys.drop π.length
  let φ2 := φ ++ φ'.drop π.length
  let Fs2 := setAll Fs π (Fc'.take π.length) ++ Fc'.drop π.length
  have hsl2 : sl2 = setAll sl π (ys.take π.length) ++ ys.drop π.length := rfl
  -- what lies where
  have atOld : ∀ {j : Nat}, j ∉ π → j < sl.length → sl2[j]? = sl[j]? ∧ φ2[j]? = φ[j]? ∧ Fs2[j]? = Fs[j]? := by
    intro j hj hlt
    refine ⟨?_, ?_, ?_⟩
    · show (setAll sl π (ys.take π.length) ++ ys.drop π.length)[j]? = _
      rw [List.getElem?_append_left (by rw [setAll_len]; exact hlt), setAll_other _ _ _ hj]
    · show (φ ++ φ'.drop π.length)[j]? = _
      rw [List.getElem?_append_left (by rw [hm.flen]; exact hlt)]
    · show (setAll Fs π (Fc'.take π.length) ++ Fc'.drop π.length)[j]? = _
      rw [List.getElem?_append_left (by rw [setAll_len, hm.Flen]; exact hlt), setAll_other _ _ _ hj]
  have atKept : ∀ {i k : Nat}, π[i]? = some k → sl2[k]? = ys[i]? ∧ φ2[k]? = φ'[i]? ∧ Fs2[k]? = Fc'[i]? := by
    intro i k hi
    have hk := hkl k (List.mem_of_getElem? hi)
    have hil := (List.getElem?_eq_some_iff.1 hi).1
    refine ⟨?_, ?_, ?_⟩
    · show (setAll sl π (ys.take π.length) ++ ys.drop π.length)[k]? = _
      rw [List.getElem?_append_left (by rw [setAll_len]; exact hk), setAll_at π sl _ hn hkl htk.symm hi, List.getElem?_take, if_pos hil]
    · show (φ ++ φ'.drop π.length)[k]? = _
      rw [List.getElem?_append_left (by rw [hm.flen]; exact hk)]
      obtain ⟨x, y, h, _, _, k3, k4, _⟩ := hg.at_ i k hi
      have := (hmc.pin i h (by rw [hBH]; exact k4)).1
      rw [k3, this]
    · show (setAll Fs π (Fc'.take π.length) ++ Fc'.drop π.length)[k]? = _
      rw [List.getElem?_append_left (by rw [setAll_len, hm.Flen]; exact hk), setAll_at π Fs _ hn (fun k hk => by rw [hm.Flen]; exact hkl k hk) (by simp; omega) hi, List.getElem?_take, if_pos hil]
  have atNew : ∀ {i : Nat}, π.length ≤ i → sl2[sl.length + (i - π.length)]? = ys[i]? ∧ φ2[sl.length + (i - π.length)]? = φ'[i]? ∧ Fs2[sl.length + (i - π.length)]? = Fc'[i]? := by
    intro i hi
    refine ⟨?_, ?_, ?_⟩
    · show (setAll sl π (ys.take π.length) ++ ys.drop π.length)[_]? = _
      rw [List.getElem?_append_right (by rw [setAll_len]; omega), setAll_len, List.getElem?_drop]
      congr 1; omega
    · show (φ ++ φ'.drop π.length)[_]? = _
      rw [List.getElem?_append_right (by rw [hm.flen]; omega), hm.flen, List.getElem?_drop]
      congr 1; omega
    · show (setAll Fs π (Fc'.take π.length) ++ Fc'.drop π.length)[_]? = _
      rw [List.getElem?_append_right (by rw [setAll_len, hm.Flen]; omega), setAll_len, hm.Flen, List.getElem?_drop]
      congr 1; omega
  have atMid : ∀ {i k : Nat}, (π ++ List.range' sl.length (slc'.length - π.length))[i]? = some k → sl2[k]? = ys[i]? ∧ φ2[k]? = φ'[i]? ∧ Fs2[k]? = Fc'[i]? := by
    intro i k h
    rcases hname h with ⟨_, h⟩ | ⟨h1, _, rfl⟩
    · exact atKept h
    · exact atNew h1
  have hlen2 : sl2.length = sl.length + (slc'.length - π.length) := by
    show (setAll sl π (ys.take π.length) ++ ys.drop π.length).length = _
    rw [List.length_append, setAll_len, List.length_drop, y1]
  have split : ∀ {j : Nat}, j < sl2.length → (j ∉ π ∧ j < sl.length) ∨ ∃ i, (π ++ List.range' sl.length (slc'.length - π.length))[i]? = some j ∧ i < slc'.length := by
    intro j hj
    by_cases h1 : j < sl.length
    · by_cases h2 : j ∈ π
      · obtain ⟨i, hi, rfl⟩ := List.mem_iff_getElem.1 h2
        exact .inr ⟨i, by rw [List.getElem?_append_left hi]; exact List.getElem?_eq_getElem hi, by omega⟩
      · exact .inl ⟨h2, h1⟩
    · refine .inr ⟨π.length + (j - sl.length), ?_, by omega⟩
      rw [List.getElem?_append_right (by omega), show π.length + (j - sl.length) - π.length = j - sl.length by omega, List.getElem?_range' (by omega)]
      congr 1; omega
  have hemb : Emb (π ++ List.range' sl.length (slc'.length - π.length)) φ' slc' φ2 sl2 := by
    intro i k hi
    obtain ⟨k1, k2, k3⟩ := atMid hi
    have hil : i < slc'.length := by rcases hname hi with ⟨h, _⟩ | ⟨_, h, _⟩ <;> omega
    obtain ⟨x, hx, hr⟩ := y2 i _ (List.getElem?_eq_getElem hil)
    have hh : φ'[i]? = some (φ'[i]'(by omega)) := List.getElem?_eq_getElem _
    exact ⟨_, x, _, List.getElem?_eq_getElem hil, by rw [k1]; exact hx, hr, hh, by rw [k2]; exact hh⟩
  -- heads
  have htc : ∀ b, top (keepH π φ (none, 0)) slc b → ∃ (k : Nat) (F : List Nat), k ∈ π ∧ Fs[k]? = some F ∧ b ∈ F := by
    intro b hb
    obtain ⟨k, x, c, k1, k2, k3, k4⟩ := gc_top hg hb
    obtain ⟨hd, F, h1, h2, h3⟩ := hm.at_ k2
    rw [k4] at h1
    cases h1
    exact ⟨k, F, k1, h2, h3.head k3⟩
  have htc2 : ∀ b, top (keepH π φ (none, 0)) slc b → top φ sl b := by
    intro b hb
    obtain ⟨k, x, c, k1, k2, k3, k4⟩ := gc_top hg hb
    exact ⟨k, x, c, k2, k3, k4⟩
  have top2 : ∀ b, top φ2 sl2 b → (∃ (j : Nat) (x : Slot) (c : Nat), j ∉ π ∧ sl[j]? = some x ∧ x.live ∧ φ[j]? = some (some b, c)) ∨ top φ' slc' b := by
    rintro b ⟨j, x, c, h1, h2, h3⟩
    rcases split (List.getElem?_eq_some_iff.1 h1).1 with ⟨k1, k2⟩ | ⟨i, k1, k2⟩
    · obtain ⟨q1, q2, _⟩ := atOld k1 k2
      exact .inl ⟨j, x, c, k1, by rw [← q1]; exact h1, h2, by rw [← q2]; exact h3⟩
    · obtain ⟨y, x', h, q1, q2, q3, q4, q5⟩ := hemb i j k1
      rw [h1] at q2
      cases q2
      rw [h3] at q5
      cases q5
      rcases renS_kind q3 with ⟨_, rfl⟩ | hk
      · exact h2.elim
      · exact .inr ⟨i, y, c, q1, hk.live.1, q4⟩
  have topc : ∀ b, top φ' slc' b → top (keepH π φ (none, 0)) slc b ∨ w.heap.size ≤ b := by
    intro b hb
    have := hmc.tops b hb
    rw [hBT, hBw] at this
    exact this
  have cnt_le : ∀ q, cnt q (List.zipWith cutF slc (keepH π Fs [])) ≤ (ofSlots Fs π).count q := by
    intro q
    have e : cnt q (keepH π Fs []) = (ofSlots Fs π).count q := rfl
    rw [← e]
    exact cnt_cut q _ _
  have hFl : ∀ k ∈ π, k < Fs.length := fun k hk => by rw [hm.Flen]; exact hkl k hk
  have cnt2 : ∀ q, cnt q Fs2 + (ofSlots Fs π).count q = cnt q Fs + cnt q Fc' := by
    intro q
    have h1 := cnt_setAll q π Fs (Fc'.take π.length) hn hFl (by simp; omega)
    have h2 : cnt q (Fc'.take π.length) + cnt q (Fc'.drop π.length) = cnt q Fc' := by
      have : cnt q (Fc'.take π.length ++ Fc'.drop π.length) = cnt q Fc' := by rw [List.take_append_drop]
      simp only [cnt, List.flatten_append, List.count_append] at this ⊢
      exact this
    have h3 : cnt q Fs2 = cnt q (setAll Fs π (Fc'.take π.length)) + cnt q (Fc'.drop π.length) := by
      show cnt q (setAll Fs π (Fc'.take π.length) ++ Fc'.drop π.length) = _
      simp only [cnt, List.flatten_append, List.count_append]
    omega
  have cntk : ∀ q, (ofSlots Fs π).count q ≤ cnt q Fs := fun q => by have := cnt_killF q hn hFl; omega
  have one : ∀ q, cnt q Fs ≤ 1 := fun q => List.nodup_iff_count.1 hm.nd q
  have onec : ∀ q, cnt q Fc' ≤ 1 := fun q => List.nodup_iff_count.1 hmc.nd q
  have hge : ∀ q ∈ Fc'.flatten, q ∈ (List.zipWith cutF slc (keepH π Fs [])).flatten ∨ w.heap.size ≤ q := by
    intro q hq
    rcases hmc.ge q hq with h | h
    · exact .inl ((hBB q).1 h)
    · rw [hBw] at h; exact .inr h
  have big : ∀ q, w.heap.size ≤ q → cnt q Fs = 0 := fun q hq => List.count_eq_zero.2 fun h => by have := hm.lt q h; omega
  have nd2 : Fs2.flatten.Nodup := by
    rw [List.nodup_iff_count]
    intro q
    have h1 := cnt2 q
    have h2 := one q
    have h3 := onec q
    have h4 := cntk q
    simp only [cnt] at h1 h2 h3 h4
    by_cases hq : q ∈ Fc'.flatten
    · rcases hge q hq with h | h
      · have h5 := cnt_le q
        have h6 := List.count_pos_iff.2 h
        simp only [cnt] at h5
        omega
      · have h5 := big q h
        simp only [cnt] at h5
        omega
    · have h5 : Fc'.flatten.count q = 0 := List.count_eq_zero.2 hq
      omega
  have hkept : Kept B.T B.w w' := hmc.only
  rw [hBT, hBw] at hkept
  have htop_old : ∀ {b : Nat}, w0.T b ∨ w0.w.heap.size ≤ b ∨ ¬ top φ sl b := by
    intro b
    by_cases h : top φ sl b
    · rcases hm.tops b h with h | h
      · exact .inl h
      · exact .inr (.inl h)
    · exact .inr (.inr h)
  have only2 : Kept w0.T w0.w w' := by
    have h0 := hm.only
    refine ⟨hkept.os.trans h0.os, hkept.tape.trans h0.tape, hkept.output.trans h0.output, Nat.le_trans h0.size hkept.size, fun k hk hT => ?_⟩
    have hkw : k < w.heap.size := Nat.lt_of_lt_of_le hk h0.size
    rw [hkept.block k hkw, h0.block k hk hT]
    intro ht
    rcases hm.tops k (htc2 k ht) with h | h
    · exact hT h
    · omega
  -- what is good stays good
  have disj : ∀ {j k : Nat} {F F2 : List Nat} {b : Nat}, j ∉ π → k ∈ π → Fs[j]? = some F → Fs[k]? = some F2 → b ∈ F → b ∈ F2 → False := fun hj hk h1 h2 hb hb2 => flat_disj hm.nd h1 h2 (fun e => hj (e ▸ hk)) _ hb hb2
  have hk2 : ∀ b, good w0.R φ sl w b → good w0.R φ2 sl2 w' b ∧ ∀ o, w'.cell? ⟨b, o, none⟩ = w.cell? ⟨b, o, none⟩ := by
    rintro b ⟨h1, h2, h3⟩
    refine ⟨⟨Nat.lt_of_lt_of_le h1 hkept.size, fun ht => ?_, h3⟩, fun o => ?_⟩
    · rcases top2 b ht with ⟨j, x, c, _, q2, q3, q4⟩ | ht
      · exact h2 ⟨j, x, c, q2, q3, q4⟩
      · rcases topc b ht with h | h
        · exact h2 (htc2 b h)
        · omega
    · have := hkept.block b h1 (fun ht => h2 (htc2 b ht))
      simp only [World.cell?, this]
  have hs2 : ∀ (s : Nat) (x : Slot), sl[s]? = some x → ∃ x', sl2[s]? = some x' ∧ Later x x' := by
    intro s x hx
    have hsl := (List.getElem?_eq_some_iff.1 hx).1
    by_cases hsp : s ∈ π
    · obtain ⟨i, hi, rfl⟩ := List.mem_iff_getElem.1 hsp
      have hpi : π[i]? = some π[i] := List.getElem?_eq_getElem hi
      obtain ⟨x', y, h, k1, k2, k3, k4, k5⟩ := hg.at_ i _ hpi
      rw [hx] at k1
      cases k1
      obtain ⟨q1, _, _⟩ := atKept hpi
      obtain ⟨z, z1, z2⟩ := l2 i y k2
      obtain ⟨u, u1, u2⟩ := y2 i z z1
      rcases k5 with rfl | k5
      · exact (lives_at hlv _ (List.mem_of_getElem? k2)).elim
      · exact ⟨u, by rw [q1]; exact u1, later_back k5 z2 u2⟩
    · obtain ⟨q1, _, _⟩ := atOld hsp hsl
      exact ⟨x, by rw [q1]; exact hx, Later.refl x⟩
  have hgd : ∀ b, good R φ' slc' w' b → good w0.R φ2 sl2 w' b := by
    rintro b ⟨h1, h2, h3⟩
    have hnt : ∀ {j : Nat} {x : Slot} {c : Nat}, j ∉ π → sl[j]? = some x → x.live → φ[j]? = some (some b, c) → False := by
      intro j x c hj hx hxl hp
      obtain ⟨hd, F, k1, k2, k3⟩ := hm.at_ hx
      rw [hp] at k1
      cases k1
      have hbF := k3.head hxl
      rcases (hR b).1 h3 with h | h | h
      · exact h.2.1 ⟨j, x, c, hx, hxl, hp⟩
      · have h4 := cnt_le b
        have h5 := List.count_pos_iff.2 h
        have h6 : 0 < (ofSlots Fs π).count b := by simp only [cnt] at h4; omega
        obtain ⟨F2, hF2, hb2⟩ := List.mem_flatten.1 (List.count_pos_iff.1 h6)
        obtain ⟨k, hk, rfl⟩ := List.mem_map.1 hF2
        have hk3 : Fs[k]? = some (Fs[k]'(hFl k hk)) := List.getElem?_eq_getElem _
        rw [hk3] at hb2
        exact disj hj hk k2 hk3 hbF hb2
      · have := k3.lt b hbF
        omega
    refine ⟨h1, fun ht => ?_, ?_⟩
    · rcases top2 b ht with ⟨j, x, c, q1, q2, q3, q4⟩ | ht
      · exact hnt q1 q2 q3 q4
      · exact h2 ht
    · rcases (hR b).1 h3 with h | h | h
      · exact h.2.2
      · have h4 := cnt_le b
        have h5 := List.count_pos_iff.2 h
        have h7 := cntk b
        refine hm.rd hst (List.count_pos_iff.1 ?_)
        simp only [cnt] at h4 h7
        omega
      · exact w0.rn hst b (.inr (Nat.le_trans hm.only.size h))
  have hp2 : ∀ (s : Nat) (h : Option Nat × Nat), φ[s]? = some h → sl[s]? ≠ some .unborn → φ2[s]? = some h := by
    intro s h hh _
    show (φ ++ φ'.drop π.length)[s]? = _
    rw [List.getElem?_append_left (List.getElem?_eq_some_iff.1 hh).1]
    exact hh
  refine ⟨φ2, ⟨⟨Fs2, only2, fun b hb => ?_, ?_, ?_, nd2, fun q hq => ?_, fun i h hi => ?_, fun s x hd F h1 h2 h3 => ?_⟩, hk2, hs2, hp2⟩, hemb, hgd⟩
  · rcases top2 b hb with ⟨j, x, c, _, q2, q3, q4⟩ | ht
    · exact hm.tops b ⟨j, x, c, q2, q3, q4⟩
    · rcases topc b ht with h | h
      · exact hm.tops b (htc2 b h)
      · exact .inr (Nat.le_trans hm.only.size h)
  · show (φ ++ φ'.drop π.length).length = (setAll sl π (ys.take π.length) ++ ys.drop π.length).length
    rw [List.length_append, List.length_append, setAll_len, List.length_drop, List.length_drop, hm.flen, y1, hφc']
  · show (setAll Fs π (Fc'.take π.length) ++ Fc'.drop π.length).length = (setAll sl π (ys.take π.length) ++ ys.drop π.length).length
    rw [List.length_append, List.length_append, setAll_len, setAll_len, List.length_drop, List.length_drop, hm.Flen, y1, hFc']
  · have h1 := cnt2 q
    have h2 := List.count_pos_iff.2 hq
    have h4 := cntk q
    simp only [cnt] at h1 h4
    by_cases hqc : q ∈ Fc'.flatten
    · rcases hge q hqc with h | h
      · have h5 := cnt_le q
        have h6 := List.count_pos_iff.2 h
        simp only [cnt] at h5
        exact hm.ge q (List.count_pos_iff.1 (by omega))
      · exact .inr (Nat.le_trans hm.only.size h)
    · have h5 : Fc'.flatten.count q = 0 := List.count_eq_zero.2 hqc
      exact hm.ge q (List.count_pos_iff.1 (by omega))
  · obtain ⟨p1, p2⟩ := hm.pin i h hi
    refine ⟨hp2 i h p1 p2, fun hu => ?_⟩
    have hil : i < sl.length := by rw [← hm.flen]; exact (List.getElem?_eq_some_iff.1 p1).1
    obtain ⟨x', k1, k2⟩ := hs2 i _ (List.getElem?_eq_getElem hil)
    rw [k1] at hu
    cases hu
    exact k2.unborn (fun e => p2 (by rw [List.getElem?_eq_getElem hil, e])) rfl
  · rcases split (List.getElem?_eq_some_iff.1 h1).1 with ⟨k1, k2⟩ | ⟨i, k1, k2⟩
    · obtain ⟨q1, q2, q3⟩ := atOld k1 k2
      have h1' : sl[s]? = some x := by rw [← q1]; exact h1
      have h3' : Fs[s]? = some F := by rw [← q3]; exact h3
      have hsr := hm.sr s x hd F h1' (by rw [← q2]; exact h2) h3'
      refine hsr.mono (fun g hg => ?_) hk2 hs2 hp2
      refine hkept.block g (hsr.lt g hg) fun ht => ?_
      obtain ⟨k, F2, e1, e2, e3⟩ := htc g ht
      exact disj k1 e1 h3' e2 hg e3
    · obtain ⟨y, x', h, q1, q2, q3, q4, q5⟩ := hemb i s k1
      obtain ⟨_, _, r3⟩ := atMid k1
      rw [h1] at q2
      cases q2
      rw [h2] at q5
      cases q5
      have h3' : Fc'[i]? = some F := by rw [← r3]; exact h3
      have hsr := hmc.sr i y _ F q1 q4 h3'
      rw [hBR] at hsr
      exact pushS hemb hgd q3 hsr
/-- A call that turns slots. -/
theorem callT_sound {m : Mode} (hst : w0.st = m.st) (hr : Rel P w0 φ σ a w) {f : FuncId} {xs : List V} {K : V → List Slot → Prop} (h : CallT P m σ.slots f xs K) {vs : List Value} (hl : vs.length = xs.length)
    (hv : ∀ (i : Nat) (x : V) (v : Value), xs[i]? = some x → vs[i]? = some v → VR w (good w0.R φ σ.slots w) φ σ.slots x v) :
    callable P f = true ∧ Calls P f vs.toArray w fun e w' => ∃ v φ' sl' z, e = .returned v ∧ Turn P w0 φ σ.slots w φ' sl' w' ∧ VR w' (good w0.R φ' sl' w') φ' sl' z v ∧ K z sl' := by
  obtain ⟨_, h0, ks, π, args, slc, r, slc', ⟨hcall, hlat, hcon⟩, hlv, hks, hka, hn, hsl, hta, r', ys, hb1, hb2, hK⟩ := h
  replace hst := hst.trans h0
  obtain ⟨Fs, hm⟩ := hr.mem
  have hka' := arrsOk_at hka
  obtain ⟨t1, t2, t3⟩ := freeze_turn hst hm hks (fun k hk => by obtain ⟨_, _, _, h⟩ := hka' k hk; exact ⟨_, h, trivial⟩)
  obtain ⟨Fs1, hm1⟩ := t1.1
  -- the callee's frame
  let R : Nat → Prop := fun b => good w0.R φ (kill ks σ.slots) w b ∨ b ∈ (List.zipWith cutF slc (keepH π Fs1 [])).flatten ∨ w.heap.size ≤ b
  have hG0 : ∀ {φ' : Hdrs}, Gc π φ (kill ks σ.slots) φ' slc → ∀ b, good w0.R φ (kill ks σ.slots) w b → good R φ' slc w b := by
    intro φ' hg b hb
    refine ⟨hb.1, fun ht => ?_, .inl hb⟩
    obtain ⟨k, x, c, _, k2, k3, k4⟩ := gc_top hg ht
    exact hb.2.1 ⟨k, x, c, k2, k3, k4⟩
  have hm1' : MemR P { w0 with st := true, rn := by simp } φ (kill ks σ.slots) w Fs1 := ⟨hm1.only, hm1.tops, hm1.flen, hm1.Flen, hm1.nd, hm1.ge, hm1.pin, hm1.sr⟩
  obtain ⟨hg, _, _⟩ := le_core (G := fun _ => True) rfl hm1' hn hsl (fun _ _ => trivial) (by simp)
  obtain ⟨_, hls, hval⟩ := le_core (G := good R (keepH π φ (none, 0)) slc w) rfl hm1' hn hsl (hG0 hg) (by simp)
  obtain ⟨s1, s2⟩ := leSlots_at hsl
  have hkl : ∀ k ∈ π, k < Fs1.length := fun k hk => by
    obtain ⟨i, hi, rfl⟩ := List.mem_iff_getElem.1 hk
    obtain ⟨x, hx, _⟩ := s2 i _ _ (List.getElem?_eq_getElem hi) (List.getElem?_eq_getElem (by omega))
    rw [hm1.Flen]
    exact (List.getElem?_eq_some_iff.1 hx).1
  have hcnt : ∀ q, cnt q (List.zipWith cutF slc (keepH π Fs1 [])) ≤ cnt q Fs1 := fun q => Nat.le_trans (cnt_cut q _ _) (cnt_keep q hn hkl)
  have hmc : MemR P ⟨w, top (keepH π φ (none, 0)) slc, (· ∈ (List.zipWith cutF slc (keepH π Fs1 [])).flatten), keepH π φ (none, 0), R, false, fun _ b hb => by rcases hb with h | h <;> first | exact .inr (.inl h) | exact .inr (.inr h)⟩ (keepH π φ (none, 0)) slc w (List.zipWith cutF slc (keepH π Fs1 [])) := by
    refine ⟨Kept.refl _ _, fun b hb => .inl hb, hls.flen, hls.Flen, nodup_cnt hm1.nd hcnt, fun q hq => .inl hq, fun i h hi => ⟨hi, fun hu => ?_⟩, hls.sr⟩
    exact lives_at hlv _ (List.mem_of_getElem? hu)
  obtain ⟨ta1, ta2⟩ := leTmps_at hta
  refine ⟨hcall, ?_⟩
  have hargs : ∀ (i : Nat) (y : V) (v : Value), args[i]? = some y → vs[i]? = some v → VR w (good R (keepH π φ (none, 0)) slc w) (keepH π φ (none, 0)) slc y v := by
    intro i y v hy hv'
    obtain ⟨x, hx, hle⟩ := ta2 i y hy
    rw [List.getElem?_map, Option.map_eq_some_iff] at hx
    obtain ⟨x0, hx0, rfl⟩ := hx
    exact hval _ y v hle (view_vr hm hka' t2 t3 t1 (hv i x0 v hx0 hv'))
  refine (hcon w (keepH π φ (none, 0)) (List.zipWith cutF slc (keepH π Fs1 [])) R (fun _ b hb => by rcases hb with h | h <;> first | exact .inr (.inl h) | exact .inr (.inr h)) vs hmc (by rw [← ta1]; simpa using hl) hargs).mono ?_
  rintro e w' ⟨v, φ', Fs', rfl, hmc', hvr⟩
  obtain ⟨φ'', q1, q2, q3⟩ := back_turn hst hm1 hn hsl hlv (R := R) (fun b => Iff.rfl) rfl rfl (fun b => Iff.rfl) rfl rfl hmc' hlat hb2
  exact ⟨v, φ'', _, r', rfl, t1.trans hm.flen q1, pushT q2 q3 hb1 hvr, hK⟩
end
end Go.Proofs.Ytdliejnmpdodhaa
