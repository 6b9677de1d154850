/-
  Stores into elements; appends. Plain lemmas, about no function of the program.
  Conditions: those typed in each theorem.
-/
import Derived.Test.YtdliejnmpdodhaaVg
namespace Go.Proofs.Ytdliejnmpdodhaa
open Go.RowKit Go.ChangeShapes Go.WideShapes
set_option linter.unusedVariables false

section
variable {P : Program} {w0 : Base} {w w' : World} {φ φ' : Hdrs} {σ : St} {a : Act} {sl sl' : List Slot} {Fs Fs' : List (List Nat)}
/-! ### Taking over -/
theorem takeC_sound (hm : MemR P w0 φ sl w Fs) : ∀ {xs : List V} {ds : List D} {ks : List Nat} {vs : List Value}, takeC sl xs = some (ds, ks) → VRs w (good w0.R φ sl w) φ sl xs vs →
    Owns P w ds vs (ofSlots Fs ks) ∧ ks.Nodup ∧ ∀ k ∈ ks, ∃ t es, sl[k]? = some (.arr t true es)
  | [], ds, ks, vs, h, hv => by
    simp [takeC] at h
    obtain ⟨rfl, rfl⟩ := h
    have := hv.1
    simp at this
    subst this
    exact ⟨.nil, by simp, by simp⟩
  | x :: xs, ds, ks, [], h, hv => by have := hv.1; simp at this
  | x :: xs, ds, ks, v :: vs, h, hv => by
    have hx := (hv.2 0 x v rfl rfl).1
    unfold takeC at h
    split at h
    · cases h
    rename_i ds' ks' h'
    obtain ⟨k1, k2, k3⟩ := takeC_sound hm h' (vs := vs) ⟨by have := hv.1; simpa using this, fun i x v hx hv' => hv.2 (i + 1) x v (by simpa using hx) (by simpa using hv')⟩
    split at h
    · cases h; obtain rfl := hx.int; exact ⟨.int _ _ k1, k2, k3⟩
    · cases h; obtain rfl := hx.bool; exact ⟨.bool _ k1, k2, k3⟩
    · cases h; cases hx; exact ⟨.none _ k1, k2, k3⟩
    · rename_i s
      split at h
      · rename_i t es hs
        split at h
        · cases h
        rename_i hk
        cases h
        cases hx with
        | gone q1 => rw [hs] at q1; cases q1
        | ref q1 q2 =>
          rw [hs] at q1
          cases q1
          obtain ⟨hd, F, q3, q4, q5⟩ := hm.at_ hs
          rw [q2] at q3
          cases q3
          have ho := owns_row q5
          refine ⟨?_, List.nodup_cons.2 ⟨hk, k2⟩, fun k hk => ?_⟩
          · have := ho.append k1
            have e : ofSlots Fs (s :: ks') = F ++ ofSlots Fs ks' := by simp [ofSlots, q4]
            rw [e]
            exact this
          · rcases List.mem_cons.1 hk with rfl | hk
            · exact ⟨t, es, hs⟩
            · exact k3 k hk
      · cases h
    · cases h
/-- Cells among owned ones are put anew. -/
theorem owns_cut : ∀ {j : Nat} {ds : List D} {vs : List Value} {F : List Nat}, Owns P w ds vs F → ∃ F1 F2, F = F1 ++ F2 ∧ Owns P w (ds.take j) (vs.take j) F1 ∧ Owns P w (ds.drop j) (vs.drop j) F2
  | 0, ds, vs, F, h => ⟨[], F, rfl, .nil, h⟩
  | j + 1, [], vs, F, h => by cases h; exact ⟨[], [], rfl, .nil, .nil⟩
  | j + 1, d :: ds, vs, F, h => by
    cases vs with
    | nil => have := h.len; simp at this
    | cons v vs =>
      obtain ⟨F1, F2, rfl, h1, h2⟩ := owns_cons h
      obtain ⟨F3, F4, rfl, h3, h4⟩ := owns_cut (j := j) h2
      exact ⟨F1 ++ F3, F4, by simp, by simpa using h1.append h3, h4⟩
theorem owns_put {j : Nat} {e ds : List D} {vs us : List Value} {f fn : List Nat} (h : Owns P w e vs f) (hd : Owns P w ds us fn) : ∃ f1 f2 f3, f = f1 ++ (f2 ++ f3) ∧ Owns P w (putAt e j ds) (putAt vs j us) (f1 ++ fn ++ f3) := by
  obtain ⟨f1, fr, rfl, h1, h2⟩ := owns_cut (j := j) h
  obtain ⟨f2, f3, rfl, h3, h4⟩ := owns_cut (j := ds.length) h2
  refine ⟨f1, f2, f3, rfl, ?_⟩
  rw [List.drop_drop, List.drop_drop] at h4
  have hl := hd.len
  unfold putAt
  rw [hl]
  exact (h1.append hd).append h4
theorem rds_put {G : Nat → Prop} {j : Nat} {e ds : List D} {vs us : List Value} {f fn : List Nat} (h : Rds w G e vs f) (hd : Rds w G ds us fn) (hj : j + ds.length ≤ e.length) : Rds w G (putAt e j ds) (putAt vs j us) [] := by
  have hj' : j + us.length ≤ vs.length := by rw [h.2.1, hd.2.1]; exact hj
  refine ⟨rfl, by rw [putAt_length hj, putAt_length hj', h.2.1], fun i d hi => ?_⟩
  rw [putAt_at hj] at hi
  rw [putAt_at hj', hd.2.1]
  split at hi
  · rename_i h1; rw [if_pos h1]; exact h.2.2 i d hi
  · rename_i h1
    rw [if_neg h1]
    split at hi
    · rename_i h2; rw [if_pos h2]; exact hd.2.2 _ d hi
    · rename_i h2; rw [if_neg h2]; exact h.2.2 i d hi
/-- The segment of a row in which an element was written. -/
theorem seg_put {cur us : List Value} {s i j : Nat} (hj : j + us.length ≤ s) (hi : i * s + s ≤ cur.length) : ((putAt cur (i * s + j) us).drop (i * s)).take s = putAt ((cur.drop (i * s)).take s) j us := by
  have hsl : ((cur.drop (i * s)).take s).length = s := by simp; omega
  apply List.ext_getElem?
  intro k
  rw [List.getElem?_take, List.getElem?_drop, putAt_at (by omega), putAt_at (by omega), List.getElem?_take, List.getElem?_drop]
  by_cases hk : k < s
  · simp only [hk, if_true]
    by_cases h1 : k < j
    · rw [if_pos (by omega), if_pos h1]
    · rw [if_neg (by omega), if_neg h1]
      by_cases h2 : k < j + us.length
      · rw [if_pos (by omega), if_pos h2]
        congr 1
        omega
      · rw [if_neg (by omega), if_neg h2]
  · simp only [hk, if_false]
    by_cases h1 : k < j
    · rw [if_pos h1]
    · rw [if_neg h1, if_neg (by omega)]
theorem seg_put_other {cur us : List Value} {s i j k : Nat} (hj : j + us.length ≤ s) (hi : i * s + s ≤ cur.length) (hk : k ≠ i) : ((putAt cur (i * s + j) us).drop (k * s)).take s = (cur.drop (k * s)).take s := by
  apply List.ext_getElem?
  intro q
  rw [List.getElem?_take, List.getElem?_drop, List.getElem?_take, List.getElem?_drop]
  by_cases hq : q < s
  · simp only [hq, if_true]
    rw [putAt_at (by omega)]
    rcases Nat.lt_or_gt_of_ne hk with h | h
    · have := mul_seg' h s
      rw [if_pos (by omega)]
    · have := mul_seg' h s
      rw [if_neg (by omega), if_neg (by omega)]
  · simp only [hq, if_false]
/-- A row in which an element was written. -/
theorem row_put {R R' : List D → List Value → List Nat → Prop} {t : TypeId} {es : List (List D)} {g c i j : Nat} {F : List Nat} {e ds : List D} {us : List Value} {cur : Array Value} (h : RowOf P w R t es (some g) c F) (hg : w.heap[g]? = some (.cells cur t (0, 0))) (he : es[i]? = some e)
    (hj : j + ds.length ≤ e.length) (hu : us.length = ds.length) (hel : e.length = P.cellsOf t)
    (hg' : w'.heap[g]? = some (.cells (putAt cur.toList (i * P.cellsOf t + j) us).toArray t (0, 0))) (hold : ∀ e cs f, (∀ q ∈ f, q ∈ F) → R e cs f → R' e cs f) {fn : List Nat}
    (hput : ∀ cs f, (∀ q ∈ f, q ∈ F) → R e cs f → ∃ f', R' (putAt e j ds) (putAt cs j us) f' ∧ ∀ q, f'.count q ≤ f.count q + fn.count q) :
    ∃ F', RowOf P w' R' t (es.set i (putAt e j ds)) (some g) c F' ∧ ∀ q, F'.count q ≤ F.count q + fn.count q := by
  obtain ⟨h1, h2, ⟨hA, _⟩ | ⟨g', cur', Gs, hA, h3, h4, h5, h6, h7, rfl⟩⟩ := h
  · cases hA
  cases hA
  rw [hg] at h3
  cases h3
  have hil := (List.getElem?_eq_some_iff.1 he).1
  have hf : Gs[i]? = some (Gs[i]'(by omega)) := List.getElem?_eq_getElem _
  have hmem : ∀ {k : Nat} {f : List Nat}, Gs[k]? = some f → ∀ q ∈ f, q ∈ g :: Gs.flatten := fun hk q hq => List.mem_cons_of_mem _ (mem_flat hk hq)
  obtain ⟨f', hp1, hp2⟩ := hput _ _ (hmem hf) (h7 i e _ he hf)
  have hle : i * P.cellsOf t + P.cellsOf t ≤ cur.toList.length := by
    have := mul_seg' (Nat.lt_of_lt_of_le hil h2) (P.cellsOf t)
    simpa [h4] using this
  have hjs : j + us.length ≤ P.cellsOf t := by rw [hu, ← hel]; exact hj
  refine ⟨g :: (Gs.set i f').flatten, ⟨h1, by simpa using h2, .inr ⟨g, _, Gs.set i f', rfl, hg', ?_, by simp [h5], fun e' he' => ?_, fun k e' f he' hf' => ?_, rfl⟩⟩, fun q => ?_⟩
  · show (putAt cur.toList (i * P.cellsOf t + j) us).length = _
    rw [putAt_length (by omega)]
    simpa using h4
  · rcases List.mem_or_eq_of_mem_set he' with h | h
    · exact h6 e' h
    · rw [h, putAt_length hj, hel]
  · rcases set_at he' with ⟨rfl, rfl, _⟩ | ⟨hk, he'⟩
    · rcases set_at hf' with ⟨_, rfl, _⟩ | ⟨hk, _⟩
      · rw [seg_put hjs hle]
        exact hp1
      · exact absurd rfl hk
    · rcases set_at hf' with ⟨rfl, _, _⟩ | ⟨_, hf'⟩
      · exact absurd rfl hk
      · rw [seg_put_other hjs hle hk]
        exact hold _ _ _ (hmem hf') (h7 k e' f he' hf')
  · have hc := cnt_set q (F' := f') hf
    have := hp2 q
    simp only [cnt] at hc
    simp only [List.count_cons]
    omega
theorem good_not_top {F : List Nat} {s : Nat} {g : Nat} (hm : MemR P w0 φ sl w Fs) (hF : Fs[s]? = some F) (hg : F = g :: F.tail) (htop : ∀ c b x, sl[s]? = some x → φ[s]? = some (some b, c) → b = g) {q : Nat} (hq : q ∈ F) (hqg : q ≠ g) (hlt : q < w.heap.size) (hst : w0.st = false) : good w0.R φ sl w q := by
  refine ⟨hlt, ?_, hm.rd hst (mem_flat hF hq)⟩
  rintro ⟨s2, x2, c2, k1, k2, k3⟩
  obtain ⟨hd2, F2, k4, k5, k6⟩ := hm.at_ k1
  rw [k3] at k4
  cases k4
  have hq2 := k6.head k2
  by_cases hss : s2 = s
  · subst hss
    exact hqg (htop c2 q x2 k1 k3)
  · exact flat_disj hm.nd hF k5 (fun e => hss e.symm) q hq hq2
theorem store_arr {s n i j : Nat} {t t' : TypeId} {ow : Bool} {es : List (List D)} {e : List D} {y : V} {v u : Value} (hm : MemR P w0 φ sl w Fs) (hs : sl[s]? = some (.arr t' ow es)) (he : es[i]? = some e) (hn : n = P.cellsOf t') (h1 : (cellsV y).length = P.cellsOf t) (h2 : j + (cellsV y).length ≤ e.length)
    (h3 : (cellsV y).all V.cell = true) (hz : P.cellsOf t ≠ 0) (hp : VR w (good w0.R φ sl w) φ sl (.eptr s n i j) u) (hy : VR w (good w0.R φ sl w) φ sl y v) :
    ∃ w', (Instr.storeAt t u v).run P w = .ok () w' ∧
      (∀ ds, w0.st = false → plains (cellsV y) = some ds → Turn P w0 φ sl w φ (sl.set s (.arr t' false (es.set i (putAt e j ds)))) w') ∧
      (ow = true → ∀ ds ks, takeC sl (cellsV y) = some (ds, ks) → s ∉ ks → Turn P w0 φ sl w φ (kill ks (sl.set s (.arr t' true (es.set i (putAt e j ds))))) w') := by
  cases hp with
  | elost k1 => rw [hs] at k1; cases k1
  | @eptr _ _ _ _ _ _ _ g c k1 k2 =>
    rw [hs] at k1
    cases k1
    obtain ⟨hd, F, k4, k5, k6⟩ := hm.at_ hs
    rw [k2] at k4
    cases k4
    have hc := hy.cells h3
    have hcl : v.cells.size = (cellsV y).length := by rw [← hc.1]; simp
    have hsl := (List.getElem?_eq_some_iff.1 hs).1
    have hil := (List.getElem?_eq_some_iff.1 he).1
    -- the row, whichever way it is owned
    obtain ⟨cur, hg, hsz, hcap, hel, hFg⟩ : ∃ cur : Array Value, w.heap[g]? = some (.cells cur t' (0, 0)) ∧ cur.size = c * P.cellsOf t' ∧ es.length ≤ c ∧ (∀ e ∈ es, e.length = P.cellsOf t') ∧ g ∈ F := by
      cases ow <;>
      · obtain ⟨q1, q2, ⟨q3, _⟩ | ⟨g', cur, Gs, q3, q4, q5, q6, q7, q8, q9⟩⟩ := k6
        · cases q3
        · cases q3; exact ⟨cur, q4, q5, q2, q7, by rw [q9]; simp⟩
    have hee := hel e (List.mem_of_getElem? he)
    have hseg := mul_seg' (Nat.lt_of_lt_of_le hil hcap) (P.cellsOf t')
    have hle : i * n + j + v.cells.size ≤ cur.size := by rw [hcl, hsz, hn]; omega
    refine ⟨_, run_storeAt hz (by rw [hcl, h1]) hg hle hc.oneAll, ?_, ?_⟩ <;> subst hn
    all_goals
      obtain ⟨hO, hg'⟩ := only_setRow (cs := (putAt cur.toList (i * P.cellsOf t' + j) v.cells.toList).toArray) hg
      have htop : top φ sl g := ⟨s, _, c, hs, trivial, k2⟩
      have hS : ∀ b ∈ [g], top φ sl b ∨ w.heap.size ≤ b := fun b hb => by rw [List.mem_singleton.1 hb]; exact .inl htop
    · intro ds hst hds
      have hdl : ds.length = (cellsV y).length := (plains_at hds).1
      have hT : ∀ b, top φ (sl.set s (.arr t' false (es.set i (putAt e j ds)))) b → w.heap.size ≤ b ∨ top φ sl b := by
        rintro b ⟨s2, x2, c2, q1, q2, q3⟩
        rcases set_at q1 with ⟨rfl, rfl, _⟩ | ⟨_, q1⟩
        · exact .inr ⟨_, _, c2, hs, trivial, q3⟩
        · exact .inr ⟨s2, x2, c2, q1, q2, q3⟩
      have hlt : ∀ (k : Nat) (x : Slot), sl[k]? = some x → ∃ x', (sl.set s (.arr t' false (es.set i (putAt e j ds))))[k]? = some x' ∧ Later x x' := by
        intro k x hx
        by_cases hi : k = s
        · subst hi
          rw [hs] at hx
          cases hx
          exact ⟨_, List.getElem?_set_self hsl, by simp [Later]⟩
        · exact ⟨x, by rw [List.getElem?_set_ne (fun e => hi e.symm)]; exact hx, Later.refl x⟩
      have hgm := good_mono (R := w0.R) (φ' := φ) hO hS hT
      have hrd : ∀ e cs f, (∀ q ∈ f, q ∈ F ∧ q ≠ g) → (match ow with | true => Owns P w e cs f | false => Rds w (good w0.R φ sl w) e cs f) → ∃ f', Rds w (good w0.R φ sl w) e cs f' := by
        intro e cs f hq hr
        cases ow with
        | false => exact ⟨f, hr⟩
        | true =>
          refine ⟨[], hr.rds fun q hqf => ?_⟩
          refine good_not_top (g := g) hm k5 ?_ (fun c' b x _ hb => ?_) (hq q hqf).1 (hq q hqf).2 (hr.lt q hqf) hst
          · obtain ⟨_, _, ⟨q3, _⟩ | ⟨g', _, _, q3, _, _, _, _, _, q9⟩⟩ := k6
            · cases q3
            · cases q3; rw [q9]; rfl
          · rw [k2] at hb; cases hb; rfl
      -- as a row of what is only read
      have hrow : RowOf P w (Rds w (good w0.R φ sl w)) t' es (some g) c [g] := by
        have hnd := nodup_of_flat hm.nd (List.mem_of_getElem? k5)
        cases ow <;>
        · obtain ⟨q1, q2, ⟨q3, _⟩ | ⟨g', cur', Gs, q3, q4, q5, q6, q7, q8, q9⟩⟩ := k6
          · cases q3
          · cases q3
            refine ⟨q1, q2, .inr ⟨g, cur', List.replicate es.length [], rfl, q4, q5, by simp, q7, fun k e' f hek hfk => ?_, ?_⟩⟩
            · have hkl := (List.getElem?_eq_some_iff.1 hek).1
              rw [List.getElem?_replicate, if_pos hkl] at hfk
              cases hfk
              have hf : Gs[k]? = some (Gs[k]'(by omega)) := List.getElem?_eq_getElem _
              rw [q9, List.nodup_cons] at hnd
              obtain ⟨f', hr1, hr2, hr3⟩ := hrd e' _ _ (fun q hq => ⟨by rw [q9]; exact List.mem_cons_of_mem _ (mem_flat hf hq), fun e => hnd.1 (e ▸ mem_flat hf hq)⟩) (q8 k e' _ hek hf)
              exact ⟨rfl, hr2, hr3⟩
            · have : ∀ k : Nat, (List.replicate k ([] : List Nat)).flatten = [] := fun k => by induction k with | zero => rfl | succ k ih => simp [List.replicate_succ, ih]
              rw [this]
      obtain ⟨F', hF1, hF2⟩ := row_put (R' := Rds (w.setRow g (putAt cur.toList (i * P.cellsOf t' + j) v.cells.toList).toArray) (good w0.R φ (sl.set s (.arr t' false (es.set i (putAt e j ds)))) (w.setRow g (putAt cur.toList (i * P.cellsOf t' + j) v.cells.toList).toArray)))
        (fn := []) (us := v.cells.toList) (ds := ds) hrow hg he (by omega) (by simp [hcl, hdl]) hee hg' (fun e cs f _ hr => hr.mono hgm) (fun cs f _ hr => ⟨[], (rds_put hr (plain_rds hds hc) (by omega)).mono hgm, by simp⟩)
      refine hm.turn (Fs' := Fs.set s F') hO hS (by simp [hm.flen]) (by simp [hm.Flen]) ?_ ?_ hlt (fun _ _ h _ => h) hT (fun k x h F2 q1 q2 q3 => ?_)
      · refine nodup_cnt hm.nd fun q => ?_
        have := cnt_set q (F' := F') k5
        have h4 := hF2 q
        have h5 : [g].count q ≤ F.count q := by
          by_cases hq : q = g
          · subst hq
            rw [List.count_singleton_self]
            exact List.count_pos_iff.2 hFg
          · rw [List.count_singleton, if_neg (by simpa using fun e => hq e.symm)]
            omega
        simp at h4
        omega
      · intro q hq
        refine hm.ge q (mem_cnt (Fs := Fs) (fun q => ?_) hq)
        have := cnt_set q (F' := F') k5
        have h4 := hF2 q
        have h5 : [g].count q ≤ F.count q := by
          by_cases hq : q = g
          · subst hq
            rw [List.count_singleton_self]
            exact List.count_pos_iff.2 hFg
          · rw [List.count_singleton, if_neg (by simpa using fun e => hq e.symm)]
            omega
        simp at h4
        omega
      · rcases set_at q1 with ⟨rfl, rfl, _⟩ | ⟨hi, q1⟩
        · rw [k2] at q2
          cases q2
          rcases set_at q3 with ⟨_, rfl, _⟩ | ⟨hi, _⟩
          · exact .inr hF1
          · exact absurd rfl hi
        · rcases set_at q3 with ⟨rfl, _, _⟩ | ⟨_, q3⟩
          · exact absurd rfl hi
          · refine .inl ⟨q1, q2, q3, fun b hb hb2 => ?_⟩
            rw [List.mem_singleton.1 hb2] at hb
            exact flat_disj hm.nd q3 k5 hi g hb hFg
    · intro how ds ks htk hsk
      subst how
      obtain ⟨t1, t2, t3⟩ := takeC_sound hm htk hc
      have hdl : ds.length = (cellsV y).length := by rw [← t1.len]; simp [hcl]
      have hksl : ∀ k ∈ ks, k < sl.length := fun k hk => by obtain ⟨_, _, hk⟩ := t3 k hk; exact (List.getElem?_eq_some_iff.1 hk).1
      have hlen2 : (sl.set s (.arr t' true (es.set i (putAt e j ds)))).length = sl.length := List.length_set ..
      have hat : ∀ {k : Nat} {x : Slot}, (kill ks (sl.set s (.arr t' true (es.set i (putAt e j ds)))))[k]? = some x → (k ∈ ks ∧ x = .dead) ∨ (k ∉ ks ∧ k = s ∧ x = .arr t' true (es.set i (putAt e j ds))) ∨ (k ∉ ks ∧ k ≠ s ∧ sl[k]? = some x) := by
        intro k x hx
        rw [kill_at, hlen2] at hx
        split at hx
        · rename_i hk; cases hx; exact .inl ⟨hk.1, rfl⟩
        · rename_i hk
          have hkn : k ∉ ks := fun hkk => hk ⟨hkk, hksl k hkk⟩
          rcases set_at hx with ⟨rfl, rfl, _⟩ | ⟨hi, hx⟩
          · exact .inr (.inl ⟨hkn, rfl, rfl⟩)
          · exact .inr (.inr ⟨hkn, hi, hx⟩)
      have hT : ∀ b, top φ (kill ks (sl.set s (.arr t' true (es.set i (putAt e j ds))))) b → w.heap.size ≤ b ∨ top φ sl b := by
        rintro b ⟨s2, x2, c2, q1, q2, q3⟩
        rcases hat q1 with ⟨_, rfl⟩ | ⟨_, rfl, rfl⟩ | ⟨_, _, q1⟩
        · exact q2.elim
        · exact .inr ⟨_, _, c2, hs, trivial, q3⟩
        · exact .inr ⟨s2, x2, c2, q1, q2, q3⟩
      have hlt : ∀ (k : Nat) (x : Slot), sl[k]? = some x → ∃ x', (kill ks (sl.set s (.arr t' true (es.set i (putAt e j ds)))))[k]? = some x' ∧ Later x x' := by
        intro k x hx
        have hkl := (List.getElem?_eq_some_iff.1 hx).1
        rw [kill_at, hlen2]
        by_cases hk : k ∈ ks
        · rw [if_pos ⟨hk, hkl⟩]
          obtain ⟨t2, es2, h4⟩ := t3 k hk
          rw [hx] at h4
          cases h4
          exact ⟨_, rfl, trivial⟩
        · rw [if_neg (fun h => hk h.1)]
          by_cases hi : k = s
          · subst hi
            rw [hs] at hx
            cases hx
            exact ⟨_, List.getElem?_set_self hsl, by simp [Later]⟩
          · exact ⟨x, by rw [List.getElem?_set_ne (fun e => hi e.symm)]; exact hx, Later.refl x⟩
      have hfn : ∀ q ∈ ofSlots Fs ks, q ≠ g := by
        intro q hq e
        subst e
        obtain ⟨f, hf, hq⟩ := List.mem_flatten.1 hq
        obtain ⟨k, hk, rfl⟩ := List.mem_map.1 hf
        have hkF : Fs[k]? = some (Fs[k]'(by rw [hm.Flen]; exact hksl k hk)) := List.getElem?_eq_getElem _
        rw [hkF] at hq
        exact flat_disj hm.nd hkF k5 (fun e => hsk (e ▸ hk)) q hq hFg
      have hnd := nodup_of_flat hm.nd (List.mem_of_getElem? k5)
      have hst : ∀ {ds cs f}, (∀ q ∈ f, q ≠ g) → Owns P w ds cs f → Owns P (w.setRow g (putAt cur.toList (i * P.cellsOf t' + j) v.cells.toList).toArray) ds cs f := fun hq ho => ho.stay fun q hqf => hO.block q (ho.lt q hqf) (by simpa using hq q hqf)
      have hFne : ∀ {f : List Nat} {Gs : List (List Nat)} {k : Nat}, F = g :: Gs.flatten → Gs[k]? = some f → ∀ q ∈ f, q ≠ g := fun e hk q hq e2 => by
        rw [e, List.nodup_cons] at hnd
        exact hnd.1 (e2 ▸ mem_flat hk hq)
      -- the row, its elements beside the head
      have hrow : RowOf P w (fun e cs f => Owns P w e cs f ∧ ∀ q ∈ f, q ≠ g) t' es (some g) c F := by
        obtain ⟨q1, q2, ⟨q3, _⟩ | ⟨g', cur', Gs, q3, q4, q5, q6, q7, q8, q9⟩⟩ := k6
        · cases q3
        · cases q3
          exact ⟨q1, q2, .inr ⟨g, cur', Gs, rfl, q4, q5, q6, q7, fun k e' f hek hfk => ⟨q8 k e' f hek hfk, hFne q9 hfk⟩, q9⟩⟩
      obtain ⟨F', hF1, hF2⟩ := row_put (R' := Owns P (w.setRow g (putAt cur.toList (i * P.cellsOf t' + j) v.cells.toList).toArray)) (fn := ofSlots Fs ks) (us := v.cells.toList) (ds := ds) hrow hg he (by omega) (by simp [hcl, hdl]) hee hg'
        (fun e cs f _ hr => hst hr.2 hr.1) (fun cs f _ hr => by
          obtain ⟨f1, f2, f3, e1, h4⟩ := owns_put (j := j) hr.1 t1
          refine ⟨_, hst (fun q hq => ?_) h4, fun q => ?_⟩
          · rcases List.mem_append.1 hq with hq | hq
            · rcases List.mem_append.1 hq with hq | hq
              · exact hr.2 q (by rw [e1]; simp [hq])
              · exact hfn q hq
            · exact hr.2 q (by rw [e1]; simp [hq])
          · rw [e1]
            simp only [List.count_append]
            omega)
      have hcnt : ∀ q, cnt q (killF ks (Fs.set s F')) ≤ cnt q Fs := by
        intro q
        have h4 := cnt_set q (F' := F') k5
        have h5 := cnt_killF q (ks := ks) (Fs := Fs.set s F') t2 (fun k hk => by rw [List.length_set, hm.Flen]; exact hksl k hk)
        have h6 : ofSlots (Fs.set s F') ks = ofSlots Fs ks := by
          unfold ofSlots
          congr 1
          apply List.map_congr_left
          intro k hk
          rw [List.getElem?_set_ne (fun e : s = k => hsk (by rw [e]; exact hk))]
        rw [h6] at h5
        have h7 := hF2 q
        omega
      refine hm.turn (Fs' := killF ks (Fs.set s F')) hO hS (by rw [kill_len, hlen2, hm.flen]) (by rw [kill_len, killF_len, hlen2, List.length_set, hm.Flen]) (nodup_cnt hm.nd hcnt) (fun q hq => hm.ge q (mem_cnt hcnt hq)) hlt (fun _ _ h _ => h) hT (fun k x h F2 q1 q2 q3 => ?_)
      rw [killF_at, List.length_set] at q3
      rcases hat q1 with ⟨hk, rfl⟩ | ⟨hk, rfl, rfl⟩ | ⟨hk, hi, q1⟩
      · rw [if_pos ⟨hk, by rw [hm.Flen]; exact hksl k hk⟩] at q3
        cases q3
        exact .inr rfl
      · rw [if_neg (fun h => hk h.1)] at q3
        rw [k2] at q2
        cases q2
        rcases set_at q3 with ⟨_, rfl, _⟩ | ⟨hi, _⟩
        · exact .inr hF1
        · exact absurd rfl hi
      · rw [if_neg (fun h => hk h.1)] at q3
        rcases set_at q3 with ⟨rfl, _, _⟩ | ⟨_, q3⟩
        · exact absurd rfl hi
        · refine .inl ⟨q1, q2, q3, fun b hb hb2 => ?_⟩
          rw [List.mem_singleton.1 hb2] at hb
          exact flat_disj hm.nd q3 k5 hi g hb hFg
theorem plains_map : ∀ ds : List D, plains (ds.map .d) = some ds
  | [] => rfl
  | d :: ds => by simp [plains, plainV, plains_map ds]
theorem Rds.vr_map {G : Nat → Prop} {ds : List D} {vs : List Value} (h : Rds w G ds vs []) : ∀ (i : Nat) (x : V) (v : Value), (ds.map V.d)[i]? = some x → vs[i]? = some v → VR w G φ sl x v := by
  intro i x v hx hv
  rw [List.getElem?_map, Option.map_eq_some_iff] at hx
  obtain ⟨d, hd, rfl⟩ := hx
  obtain ⟨v', h1, h2⟩ := h.2.2 i d hd
  rw [hv] at h1
  cases h1
  exact .d h2
/-- What is stored becomes data that stay. -/
theorem store_frozen (hst : w0.st = false) {s n i j : Nat} {t t' : TypeId} {ow : Bool} {es : List (List D)} {e : List D} {y : V} {v u : Value} (hm : MemR P w0 φ sl w Fs) (hs : sl[s]? = some (.arr t' ow es)) (he : es[i]? = some e) (hn : n = P.cellsOf t') (h1 : (cellsV y).length = P.cellsOf t) (h2 : j + (cellsV y).length ≤ e.length)
    (h3 : (cellsV y).all V.cell = true) (hz : P.cellsOf t ≠ 0) (hp : VR w (good w0.R φ sl w) φ sl (.eptr s n i j) u) (hy : VR w (good w0.R φ sl w) φ sl y v) {ds : List D} {ks : List Nat} (hfz : freezeC sl (cellsV y) = some (ds, ks)) (hk : s ∉ ks) {w' : World}
    (hrun : (Instr.storeAt t u v).run P w = .ok () w') : Turn P w0 φ sl w φ ((kill ks sl).set s (.arr t' false (es.set i (putAt e j ds)))) w' := by
  have hcv := hy.cells h3
  have hcv' : ∀ (i : Nat) (x : V) (v' : Value), (cellsV y)[i]? = some x → v.cells.toList[i]? = some v' → VR w (good w0.R φ sl w) φ sl x v' := fun i x v' hx hv => (hcv.2 i x v' hx hv).1
  obtain ⟨f1, f2, _, _⟩ := freezeC_sound hm (G := fun _ => True) (fun _ _ => trivial) hfz hcv.1 hcv'
  obtain ⟨t1, t2, t3⟩ := freeze_turn hst hm f1 (fun k hk => by obtain ⟨_, _, _, h3⟩ := f2 k hk; exact ⟨_, h3, trivial⟩)
  obtain ⟨_, _, f3, f4⟩ := freezeC_sound hm (G := good w0.R φ (kill ks sl) w) t2 hfz hcv.1 hcv'
  have hrd := f4 t3
  have hs' : (kill ks sl)[s]? = some (.arr t' ow es) := by rw [kill_at, if_neg (fun h => hk h.1)]; exact hs
  obtain ⟨Fs2, hm2⟩ := t1.1
  -- the value, as data
  obtain ⟨y2, hy2, hvr⟩ : ∃ y2 : V, cellsV y2 = ds.map .d ∧ VR w (good w0.R φ (kill ks sl) w) φ (kill ks sl) y2 v := by
    by_cases ha : ∃ xs, y = .agg xs
    · obtain ⟨xs, rfl⟩ := ha
      refine ⟨.agg (ds.map .d), rfl, ?_⟩
      cases hy with
      | agg hl hone hv =>
        rename_i vs
        exact .agg (by rw [List.length_map, f3]; exact hl) hone (Rds.vr_map hrd)
    · have hc : cellsV y = [y] := by
        unfold cellsV
        split
        · exact absurd ⟨_, rfl⟩ ha
        · rfl
      rw [hc] at f3
      match ds, f3 with
      | [d], _ =>
        refine ⟨.d d, rfl, ?_⟩
        have hv1 : v.cells.toList = [v] := by
          have hvc : v.oneCell' = true := hy.one (by rw [hc] at h3; simpa using h3)
          cases v <;> first | rfl | simp [Value.oneCell'] at hvc
        rw [hv1] at hrd
        exact Rds.vr_map hrd 0 _ _ rfl rfl
  have hpl : plains (cellsV y2) = some ds := by rw [hy2]; exact plains_map ds
  have hlen : (cellsV y2).length = (cellsV y).length := by rw [hy2, List.length_map, f3]
  obtain ⟨w2, k1, k2, _⟩ := store_arr (t := t) (v := v) (u := u) hm2 hs' he hn (by rw [hlen]; exact h1) (by rw [hlen]; exact h2) (by rw [hy2, List.all_eq_true]; intro x hx; obtain ⟨d, _, rfl⟩ := List.mem_map.1 hx; rfl) hz (hp.mono t1.2.hk t1.2.hs t1.2.hp) hvr
  rw [hrun] at k1
  cases k1
  exact t1.trans hm.flen (k2 ds hst hpl)
theorem storeV_sound {st : Bool} (hst : w0.st = st) {t : TypeId} {p y : V} {u v : Value} (h : storeV P st t sl p y = some sl') (hm : MemR P w0 φ sl w Fs) (hp : VR w (good w0.R φ sl w) φ sl p u) (hy : VR w (good w0.R φ sl w) φ sl y v) :
    ∃ w', (Instr.storeAt t u v).run P w = .ok () w' ∧ Turn P w0 φ sl w φ sl' w' := by
  unfold storeV at h
  split at h
  · split at h
    · rename_i hs
      split at h
      · rename_i hc
        cases h
        exact store_var hm hs hc.1 hc.2.1 hc.2.2.1 hc.2.2.2 hp hy
      · cases h
    · cases h
  · split at h
    · rename_i hs
      split at h
      · rename_i he
        split at h
        · rename_i hc
          obtain ⟨w', h1, h2, h3⟩ := store_arr hm hs he hc.1 hc.2.1 hc.2.2.1 hc.2.2.2.1 hc.2.2.2.2 hp hy
          refine ⟨w', h1, ?_⟩
          split at h
          · rename_i htk
            split at h
            · cases h
            · rename_i hk
              cases h
              exact h3 rfl _ _ htk hk
          · split at h
            · rename_i hs0
              split at h
              · rename_i ds ks hfz
                split at h
                · cases h
                · rename_i hk
                  cases h
                  exact store_frozen (hst.trans hs0) hm hs he hc.1 hc.2.1 hc.2.2.1 hc.2.2.2.1 hc.2.2.2.2 hp hy hfz hk h1
              · cases h
            · cases h
        · cases h
      · cases h
    · cases h
  · cases h
end
end Go.Proofs.Ytdliejnmpdodhaa
