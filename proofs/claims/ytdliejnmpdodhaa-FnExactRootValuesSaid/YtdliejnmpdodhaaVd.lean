/-
  The model's operations give what the abstract ones give: operations that only reckon or read. Plain lemmas, about no function of the program.
  Conditions: those typed in each theorem.
-/
import Derived.Test.YtdliejnmpdodhaaVc
namespace Go.Proofs.Ytdliejnmpdodhaa
open Go.RowKit Go.ChangeShapes Go.WideShapes
set_option linter.unusedVariables false

section
variable {P : Program} {w0 : Base} {w : World} {φ : Hdrs} {σ : St} {a : Act}
abbrev St.vr (σ : St) (R : Nat → Prop) (φ : Hdrs) (w : World) (x : V) (v : Value) : Prop := VR w (good R φ σ.slots w) φ σ.slots x v

theorem ofCell_vr {G : Nat → Prop} {sl : List Slot} (v : Value) : VR w G φ sl (ofCell v) v := by
  cases v <;> first | exact .any _ | exact .d (.int _ _) | exact .d (.bool _)
theorem Rel.eval (h : Rel P w0 φ σ a w) (x : Operand) : σ.vr w0.R φ w (σ.eval x) (a.eval x) := by
  cases x with
  | tmp t =>
    show VR _ _ _ _ ((σ.tmps[t]?).getD .any) (a.tmps.getD t undef)
    cases hx : σ.tmps[t]? with
    | none => exact .any _
    | some x =>
      have hl : t < a.tmps.size := by rw [h.tlen]; exact (List.getElem?_eq_some_iff.1 hx).1
      have hv : a.tmps[t]? = some a.tmps[t] := Array.getElem?_eq_getElem hl
      have := h.tmps t x _ hx hv
      rw [Array.getD_eq_getD_getElem?, hv]
      exact this
  | const v => exact ofCell_vr v
  | global g => exact .any _
  | func f => exact .fn (xs := []) (vs := []) rfl (fun i x v hx => by simp at hx)
theorem cellOk_vr {G : Nat → Prop} {sl : List Slot} {x : V} {v : Value} (h : cellOk x v = true) : VR w G φ sl x v ∧ v.oneCell' = true := by
  unfold cellOk at h
  split at h
  · simp at h; obtain ⟨rfl, rfl⟩ := h; exact ⟨.d (.int _ _), rfl⟩
  · simp at h; subst h; exact ⟨.d (.bool _), rfl⟩
  · exact ⟨.nil _, rfl⟩
  · cases h
theorem cellsOk_vr {G : Nat → Prop} {sl : List Slot} : ∀ {xs : List V} {vs : List Value}, cellsOk xs vs = true → vs.length = xs.length ∧ ∀ (i : Nat) (x : V) (v : Value), xs[i]? = some x → vs[i]? = some v → VR w G φ sl x v ∧ v.oneCell' = true
  | [], [], _ => ⟨rfl, fun i x v hx => by simp at hx⟩
  | [], _ :: _, h => by simp [cellsOk] at h
  | _ :: _, [], h => by simp [cellsOk] at h
  | x :: xs, v :: vs, h => by
    simp only [cellsOk, Bool.and_eq_true] at h
    obtain ⟨h1, h2⟩ := cellsOk_vr (xs := xs) (vs := vs) h.2
    refine ⟨by simp [h1], fun i y u hy hu => ?_⟩
    match i with
    | 0 => simp at hy hu; subst hy hu; exact cellOk_vr h.1
    | i + 1 => simp at hy hu; exact h2 i y u hy hu
theorem vr_agg {G : Nat → Prop} {sl : List Slot} {xs : List V} {vs : List Value} (hl : vs.length = xs.length) (h : ∀ (i : Nat) (x : V) (v : Value), xs[i]? = some x → vs[i]? = some v → VR w G φ sl x v ∧ v.oneCell' = true) : VR w G φ sl (.agg xs) (.agg vs.toArray) := by
  refine .agg hl (fun v hv => ?_) (fun i x v hx hv => (h i x v hx hv).1)
  obtain ⟨i, hi, rfl⟩ := List.mem_iff_getElem.1 hv
  exact (h i (xs[i]'(by omega)) _ (List.getElem?_eq_getElem _) (List.getElem?_eq_getElem hi)).2
theorem Rel.evalT (h : Rel P w0 φ σ a w) (t : TypeId) (x : Operand) : σ.vr w0.R φ w (evalT P t σ x) (a.eval x) := by
  unfold Go.Proofs.Ytdliejnmpdodhaa.evalT
  split
  · split
    · exact .nil _
    · exact .any _
  · rename_i cs
    split
    · split
      · rename_i xs _ hok
        obtain ⟨h1, h2⟩ := cellsOk_vr (w := w) (φ := φ) (G := good w0.R φ σ.slots w) (sl := σ.slots) hok
        have := vr_agg h1 h2
        simpa [Act.eval] using this
      · exact .any _
    · exact .any _
  · exact h.eval x

theorem VR.int {G : Nat → Prop} {sl : List Slot} {k : IntKind} {n : Int} {v : Value} (h : VR w G φ sl (.d (.int k n)) v) : v = .int k n := by
  cases h with
  | d h => cases h; rfl
theorem VR.bool {G : Nat → Prop} {sl : List Slot} {b : Bool} {v : Value} (h : VR w G φ sl (.d (.bool b)) v) : v = .bool b := by
  cases h with
  | d h => cases h; rfl

theorem run_guard_int (op : BinOp) (t : TypeId) (x y : Operand) (k k' : IntKind) (n m : Int) (w : World) : (eqGuard op t x y (.int k n) (.int k' m)).run P w = .ok () w := by
  unfold eqGuard; split <;> rfl
theorem run_guard_bool (op : BinOp) (t : TypeId) (x y : Operand) (n m : Bool) (w : World) : (eqGuard op t x y (.bool n) (.bool m)).run P w = .ok () w := by
  unfold eqGuard; split <;> rfl

theorem run_eq_bool {t : TypeId} (ht : P.underlying t = some .bool) (n m : Bool) (w : World) : (Op.equal t (.bool n) (.bool m)).run P w = .ok (n == m) w := by
  show (Op.equalIn (9999 + 1) t (.bool n) (.bool m)).run P w = _
  rw [Op.equalIn, Sem.run_bind, run_underlying ht]
  rfl
theorem abin_sound {op : BinOp} {x y : V} {vx vy : Value} {G : Nat → Prop} {sl : List Slot} {z : V} {t : TypeId} (hx : VR w G φ sl x vx) (hy : VR w G φ sl y vy) (h : abin P t op x y = some z) :
    ∃ v, (binOp op t vx vy).run P w = .ok v w ∧ VR w G φ sl z v ∧ (∀ (x y : Operand), (eqGuard op t x y vx vy).run P w = .ok () w) := by
  unfold abin at h
  split at h
  · rename_i k n k' m
    obtain rfl := hx.int
    obtain rfl := hy.int
    have hg : ∀ (x y : Operand), (eqGuard op t x y (.int k n) (.int k' m)).run P w = .ok () w := fun x y => run_guard_int op t x y k k' n m w
    split at h
    · split at h
      · obtain rfl := Option.some.inj h
        refine ⟨_, ?_, .d (.int _ _), hg⟩
        have hm : ¬ m < 0 := by omega
        simp [binOp, Op.shift, hm]
      · cases h
    · split at h
      · obtain rfl := Option.some.inj h
        refine ⟨_, ?_, .d (.int _ _), hg⟩
        have hm : ¬ m < 0 := by omega
        simp [binOp, Op.shift, hm]
      · cases h
    · split at h
      · rename_i hk
        subst hk
        split at h
        all_goals first
          | (cases h; done)
          | (obtain rfl := Option.some.inj h; refine ⟨_, ?_, .d (.int _ _), hg⟩; simp [binOp, Op.intArith, Op.intBits])
          | (obtain rfl := Option.some.inj h; refine ⟨_, ?_, .d (.bool _), hg⟩; simp [binOp, Op.intCmp])
          | (split at h
             · cases h
             · rename_i hm; obtain rfl := Option.some.inj h; refine ⟨_, ?_, .d (.int _ _), hg⟩; simp [binOp, Op.intDiv, hm])
      · cases h
  · rename_i n m
    obtain rfl := hx.bool
    obtain rfl := hy.bool
    have hg : ∀ (x y : Operand), (eqGuard op t x y (.bool n) (.bool m)).run P w = .ok () w := fun x y => run_guard_bool op t x y n m w
    split at h
    · rename_i ht
      split at h
      · obtain rfl := Option.some.inj h
        refine ⟨_, ?_, .d (.bool _), hg⟩
        simp [binOp, run_eq_bool ht]
      · obtain rfl := Option.some.inj h
        refine ⟨_, ?_, .d (.bool _), hg⟩
        simp [binOp, run_eq_bool ht]
      · cases h
    · cases h
  · cases h
theorem aun_sound {op : UnOp} {x : V} {vx : Value} {G : Nat → Prop} {sl : List Slot} {z : V} (hx : VR w G φ sl x vx) (h : aun op x = some z) :
    ∃ v, (Op.unary op vx).run P w = .ok v w ∧ VR w G φ sl z v := by
  unfold aun at h
  split at h
  · obtain rfl := hx.int
    obtain rfl := Option.some.inj h
    exact ⟨_, by simp [Op.unary, Op.intArith], .d (.int _ _)⟩
  · obtain rfl := hx.bool
    obtain rfl := Option.some.inj h
    exact ⟨_, by simp [Op.unary], .d (.bool _)⟩
  · cases h
theorem pick_vr {G : Nat → Prop} {sl : List Slot} {t : Bool} {x y : V} {vx vy : Value} (hx : VR w G φ sl x vx) (hy : VR w G φ sl y vy) : VR w G φ sl (pickV t x y) (if t then vx else vy) := by
  unfold pickV
  split
  · obtain rfl := hx.bool
    obtain rfl := hy.bool
    cases t <;> exact .d (.bool _)
  · cases t
    · exact hy
    · exact hx

/-! ### Types, places, reading -/
theorem elemOf_some {t e : TypeId} (h : elemOf P t = some e) : P.underlying t = some (.slice e) := by
  unfold elemOf at h
  split at h
  · rename_i ht; obtain rfl := Option.some.inj h; exact ht
  · cases h
theorem isSome_of {α : Type} {x : Option α} (h : ¬ x.isSome = false) : x.isSome = true := by cases x <;> simp_all
theorem run_sizeOf0 {t : TypeId} (h : P.cellsOf t ≠ 0) : (sizeOf t).run P w = .ok (P.cellsOf t) w := by
  cases hi : P.info? t with
  | none => simp [Program.cellsOf, hi] at h
  | some i => exact run_sizeOf w hi
theorem run_sizeOf' {t : TypeId} (h : (P.underlying t).isSome = true) : (sizeOf t).run P w = .ok (P.cellsOf t) w := by
  cases hi : P.info? t with
  | none => simp [Program.underlying, hi] at h
  | some i => exact run_sizeOf w hi
theorem run_isAgg {t : TypeId} (h : (P.underlying t).isSome = true) : (isAgg t).run P w = .ok (aggT P t) w := by
  cases ht : P.underlying t with
  | none => simp [ht] at h
  | some d =>
    unfold isAgg aggT
    simp only [Sem.run_bind, run_underlying ht, Result.andThen_ok, ht]
    cases d <;> rfl
theorem lenV_sound {G : Nat → Prop} {sl : List Slot} {x : V} {v : Value} {n : Nat} (h : lenV sl x = some n) (hx : VR w G φ sl x v) : ∃ A c, v = .slice A n c := by
  unfold lenV at h
  split at h
  · cases h; cases hx; exact ⟨_, _, rfl⟩
  · cases h
    cases hx with
    | d h => obtain ⟨A, c, h, _⟩ := h.len; exact ⟨A, c, h⟩
  · split at h
    · rename_i hs
      cases h
      cases hx with
      | lit => exact ⟨_, _, rfl⟩
      | litgone h1 => rw [hs] at h1; cases h1
    · cases h
  · split at h
    · rename_i hs
      cases h
      cases hx with
      | ref h1 h2 => rw [hs] at h1; cases h1; exact ⟨_, _, rfl⟩
      | gone h1 => rw [hs] at h1; cases h1
    · cases h
  · cases h
theorem add_none (g o n : Nat) : (⟨g, o, none⟩ : Addr).add n = ⟨g, o + n, none⟩ := by
  unfold Addr.add
  split
  · rename_i h; subst h; rfl
  · rfl
theorem run_indexAt {t e : TypeId} {A : Addr} {len cap : Nat} {k : IntKind} {i : Int} (ht : P.underlying t = some (.slice e)) (h0 : 0 ≤ i) (hi : i < len) (hs : (P.underlying e).isSome = true) :
    (Instr.indexAt t (.slice (some A) len cap) (.int k i)).run P w = .ok (.pointer (some (A.add (i.toNat * P.cellsOf e)))) w := by
  simp [Instr.indexAt, asIntOf, run_underlying ht, h0, hi, run_sizeOf' hs]
theorem indexV_sound {G : Nat → Prop} {sl : List Slot} {t : TypeId} {x y : V} {v : Value} {k : IntKind} {i : Int} (h : indexV P t sl x i = some y)
    (hx : VR w G φ sl x v) (hf : ∀ (s : Nat) (x : Slot) (A : Option Nat) (c : Nat), sl[s]? = some x → φ[s]? = some (A, c) → x.live → (∀ t ow es, x = .arr t ow es → A = none → es = [])) : ∃ u, (Instr.indexAt t v (.int k i)).run P w = .ok u w ∧ VR w G φ sl y u := by
  unfold indexV at h
  split at h
  · cases h
  rename_i e he
  have ht := elemOf_some he
  split at h
  · cases h
  rename_i hi
  have hi0 : 0 ≤ i := by omega
  have hs : (P.underlying e).isSome = true := by
    cases hu : (P.underlying e).isSome with
    | true => rfl
    | false => exact absurd (.inr hu) hi
  split at h
  · rename_i t' es
    split at h
    · rename_i c hc
      split at h
      · rename_i hcl
        obtain rfl := Option.some.inj h
        have hil : i.toNat < es.length := (List.getElem?_eq_some_iff.1 hc).1
        cases hx with
        | d hx =>
          cases hx with
          | nil => simp at hil
          | sl _ _ b o cc ss u hn hcap hG hls hcc hrr =>
            have hss : ss = P.cellsOf e := by rw [← hcl]; exact (hls c (List.mem_of_getElem? hc)).symm
            subst hss
            refine ⟨_, run_indexAt ht hi0 (by omega) hs, ?_⟩
            rw [add_none]
            exact .cptr (u i.toNat) hG (fun j d hd => hcc _ _ _ _ hc hd) (fun j d hd => hrr _ _ _ _ hc hd)
      · cases h
    · cases h
  · rename_i s
    split at h
    · rename_i t' ow es hsl
      split at h
      · rename_i hq
        have hil : i.toNat < es.length := (List.getElem?_eq_some_iff.1 hq).1
        obtain rfl := Option.some.inj h
        cases hx with
        | gone h1 => rw [hsl] at h1; cases h1
        | @ref _ t'' ow' es' A c h1 h2 =>
          rw [hsl] at h1
          cases h1
          cases A with
          | none => have := hf s _ _ _ hsl h2 trivial _ _ _ rfl rfl; subst this; simp at hil
          | some g =>
            refine ⟨_, run_indexAt ht hi0 (by omega) hs, ?_⟩
            rw [add_none, Nat.zero_add]
            exact .eptr (j := 0) hsl h2
      · cases h
    · cases h
  · rename_i s n
    split at h
    · rename_i t' xs hsl
      split at h
      · rename_i hil
        obtain rfl := Option.some.inj h
        cases hx with
        | litgone h1 => rw [hsl] at h1; cases h1
        | lit h1 h2 =>
          refine ⟨_, run_indexAt ht hi0 (by omega) hs, ?_⟩
          rw [add_none, Nat.zero_add]
          exact .ptr hsl trivial h2
      · cases h
    · cases h
  · cases h

theorem nodup_of_flat : ∀ {Fs : List (List Nat)} {F : List Nat}, Fs.flatten.Nodup → F ∈ Fs → F.Nodup
  | [], _, _, h => by simp at h
  | f :: Fs, F, hn, h => by
    rw [List.flatten_cons, List.nodup_append] at hn
    rcases List.mem_cons.1 h with rfl | h
    · exact hn.1
    · exact nodup_of_flat hn.2.1 h
/-- Cells that lie in a row, read at a type. -/
theorem run_loadVar' {t : TypeId} {g o : Nat} {vs : List Value} {G : Nat → Prop} {sl : List Slot} {y : V} {ys : List V} (h : takeV (aggT P t) (P.cellsOf t) ys = some y) (ht : (P.underlying t).isSome = true)
    (hl : vs.length = ys.length) (hc : ∀ j v, vs[j]? = some v → w.cell? ⟨g, o + j, none⟩ = some v) (hv : ∀ (i : Nat) (x : V) (v : Value), ys[i]? = some x → vs[i]? = some v → VR w G φ sl x v ∧ v.oneCell' = true) :
    ∃ u, (loadVar t ⟨g, o, none⟩).run P w = .ok u w ∧ VR w G φ sl y u := by
  unfold takeV at h
  unfold loadVar
  simp only [Sem.run_bind, run_isAgg ht, Result.andThen_ok]
  split at h
  · rename_i hagg
    split at h
    · rename_i hle
      obtain rfl := Option.some.inj h
      rw [if_pos hagg]
      have hlen : (vs.take (P.cellsOf t)).length = P.cellsOf t := by simp; omega
      have hld := run_loadCells_list (P := P) (w := w) ⟨g, o, none⟩ (vs.take (P.cellsOf t)) (fun j v hj => by
        rw [List.getElem?_take] at hj
        split at hj
        · rw [add_none]; exact hc j v hj
        · cases hj)
      rw [hlen] at hld
      refine ⟨.agg (vs.take (P.cellsOf t)).toArray, ?_, vr_agg (by simp; omega) (fun i x v hx hv' => ?_)⟩
      · simp only [Sem.run_bind, run_sizeOf' ht, Result.andThen_ok, hld, Sem.run_pure]
      · rw [List.getElem?_take] at hx hv'
        split at hx
        · rename_i hi; rw [if_pos hi] at hv'; exact hv i x v hx hv'
        · cases hx
    · cases h
  · rename_i hagg
    rw [if_neg hagg]
    split at h
    · rename_i x xs
      obtain rfl := Option.some.inj h
      cases vs with
      | nil => simp at hl
      | cons v vs =>
        refine ⟨v, ?_, (hv 0 x v rfl rfl).1⟩
        have := hc 0 v rfl
        rw [Nat.add_zero] at this
        simp [this]
    · cases h
theorem takeD_takeV {agg : Bool} {n : Nat} {ds : List D} {y : V} (h : takeD agg n ds = some y) : takeV agg n (ds.map .d) = some y := by
  unfold takeD at h
  unfold takeV
  split at h
  · rename_i ha
    rw [if_pos ha]
    simpa using h
  · rename_i ha
    rw [if_neg ha]
    cases ds with
    | nil => cases h
    | cons d ds => simpa using h
/-- Data without slices hang on no block. -/
theorem Owns.flat_rds {ds : List D} {vs : List Value} {F : List Nat} (h : Owns P w ds vs F) (hf : ds.all flatD = true) (G : Nat → Prop) : Rds w G ds vs [] := by
  induction h with
  | nil => exact ⟨rfl, rfl, fun i d h => by simp at h⟩
  | int k x h ih =>
    obtain ⟨_, h1, h2⟩ := ih (by simpa [flatD] using hf)
    refine ⟨rfl, by simp [h1], fun i d hd => ?_⟩
    match i with
    | 0 => simp at hd; subst hd; exact ⟨_, rfl, .int k x⟩
    | i + 1 => simp at hd; simpa using h2 i d hd
  | bool b h ih =>
    obtain ⟨_, h1, h2⟩ := ih (by simpa [flatD] using hf)
    refine ⟨rfl, by simp [h1], fun i d hd => ?_⟩
    match i with
    | 0 => simp at hd; subst hd; exact ⟨_, rfl, .bool b⟩
    | i + 1 => simp at hd; simpa using h2 i d hd
  | none t h ih => simp [flatD] at hf
  | sl t es g c cur Fs hg hcap hc63 hsz hFl hl he h ih ih2 => simp [flatD] at hf
theorem loadV_sound {st : Bool} (hst : w0.st = st) {sl : List Slot} {Fs : List (List Nat)} {t : TypeId} {x y : V} {v : Value} (h : loadV P st t sl x = some y) (hm : MemR P w0 φ sl w Fs) (hx : VR w (good w0.R φ sl w) φ sl x v) :
    ∃ u, (Instr.loadAt t v).run P w = .ok u w ∧ VR w (good w0.R φ sl w) φ sl y u := by
  have done : ∀ (g o : Nat), (Instr.loadAt t (.pointer (some ⟨g, o, none⟩))).run P w = (loadVar t ⟨g, o, none⟩).run P w := by
    intro g o
    simp [Instr.loadAt, Instr.sureAddr]
  unfold loadV at h
  split at h
  · cases h
  rename_i ht
  replace ht := isSome_of ht
  split at h
  · rename_i ds
    cases hx with
    | cptr u hG hc hr =>
      rw [done]
      refine run_loadVar' (vs := (List.range ds.length).map u) (takeD_takeV h) ht (by simp) (fun j v hj => ?_) (fun i x v hx hv => ?_)
      · rw [List.getElem?_map, Option.map_eq_some_iff] at hj
        obtain ⟨j', hj1, rfl⟩ := hj
        obtain ⟨hlt, rfl⟩ := List.getElem?_eq_some_iff.1 hj1
        simp only [List.length_range] at hlt
        simp only [List.getElem_range]
        exact hc j ds[j] (List.getElem?_eq_getElem hlt)
      · rw [List.getElem?_map, Option.map_eq_some_iff] at hx hv
        obtain ⟨d, hd, rfl⟩ := hx
        obtain ⟨i', hi1, rfl⟩ := hv
        obtain ⟨hlt, rfl⟩ := List.getElem?_eq_some_iff.1 hi1
        simp only [List.getElem_range]
        exact ⟨.d (hr i d hd), (hr i d hd).one⟩
  · rename_i s o
    split at h
    · rename_i t' xs hs
      cases hx with
      | lost h1 => rw [hs] at h1; cases h1
      | @ptr _ _ x g c h1 h2 h3 =>
        rw [hs] at h1
        cases h1
        obtain ⟨hd, F, h4, h5, h6⟩ := hm.at_ hs
        rw [h3] at h4
        cases h4
        obtain ⟨g', cur, e1, e2, e3, e4, e5⟩ := h6
        cases e1
        rw [done]
        refine run_loadVar' (vs := cur.toList.drop o) h ht (by simp [e4]) (fun j v hj => ?_) (fun i x v hx hv => ?_)
        · rw [cell_of_row w g _ cur t' (0, 0) e3]
          rw [List.getElem?_drop, Array.getElem?_toList] at hj
          exact hj
        · rw [List.getElem?_drop] at hx hv
          rw [Array.getElem?_toList] at hv
          exact e5 _ x v hx hv
    · cases h
  · rename_i s n i j
    split at h
    · rename_i t' ow es hs
      split at h
      · rename_i e he
        split at h
        · rename_i hns
          obtain ⟨hn, hsf⟩ := hns
          cases hx with
          | elost h1 => rw [hs] at h1; cases h1
          | @eptr _ _ _ _ t'' ow' es' g c h1 h2 =>
            rw [hs] at h1
            cases h1
            obtain ⟨hd, F, h4, h5, h6⟩ := hm.at_ hs
            rw [h2] at h4
            cases h4
            rw [done]
            have fin : ∀ (cur : Array Value), w.heap[g]? = some (.cells cur t' (0, 0)) → e.length = P.cellsOf t' → (∃ f, Rds w (good w0.R φ sl w) e ((cur.toList.drop (i * P.cellsOf t')).take (P.cellsOf t')) f) →
                ∃ u, (loadVar t ⟨g, i * n + j, none⟩).run P w = .ok u w ∧ VR w (good w0.R φ sl w) φ sl y u := by
              intro cur hg hel ⟨f, hf1, hf2, hf3⟩
              have hseg : ((cur.toList.drop (i * P.cellsOf t')).take (P.cellsOf t')).length = P.cellsOf t' := by rw [hf2, hel]
              refine run_loadVar' (vs := ((cur.toList.drop (i * P.cellsOf t')).take (P.cellsOf t')).drop j) (takeD_takeV h) ht (by rw [List.length_drop, hseg, List.length_map, List.length_drop, hel]) (fun q v hq => ?_) (fun q x v hx hv => ?_)
              · rw [List.getElem?_drop, List.getElem?_take] at hq
                split at hq
                · rw [cell_of_row w g _ cur t' (0, 0) hg, hn]
                  rw [List.getElem?_drop, Array.getElem?_toList] at hq
                  rw [← hq, Nat.add_assoc]
                · cases hq
              · rw [List.getElem?_map, Option.map_eq_some_iff] at hx
                obtain ⟨d, hd, rfl⟩ := hx
                rw [List.getElem?_drop] at hd hv
                obtain ⟨v', hv', hr⟩ := hf3 _ d hd
                rw [hv'] at hv
                cases hv
                exact ⟨.d hr, hr.one⟩
            have row : ∀ {R : List D → List Value → List Nat → Prop}, RowOf P w R t' es (some g) c F → (∀ cs f, (∀ q ∈ f, q ∈ F ∧ q ≠ g) → R e cs f → ∃ f', Rds w (good w0.R φ sl w) e cs f') → F.Nodup →
                ∃ u, (loadVar t ⟨g, i * n + j, none⟩).run P w = .ok u w ∧ VR w (good w0.R φ sl w) φ sl y u := by
              intro R hr hR hnd
              obtain ⟨_, _, ⟨hA, _⟩ | ⟨g', cur, Fs', hA, hg, hsz, hFl, hel, hrow, rfl⟩⟩ := hr
              · cases hA
              · cases hA
                have hil := (List.getElem?_eq_some_iff.1 he).1
                have hf : Fs'[i]? = some (Fs'[i]'(by omega)) := List.getElem?_eq_getElem _
                exact fin cur hg (hel e (List.mem_of_getElem? he)) (hR _ _ (fun q hq => ⟨List.mem_cons_of_mem _ (mem_flat hf hq), fun e => by subst e; exact (List.nodup_cons.1 hnd).1 (mem_flat hf hq)⟩) (hrow i e _ he hf))
            have hnd : F.Nodup := nodup_of_flat hm.nd (List.mem_of_getElem? h5)
            cases ow with
            | false => exact row h6 (fun cs f _ hr => ⟨f, hr⟩) hnd
            | true =>
              refine row h6 (fun cs f hq ho => ?_) hnd
              by_cases hfl : e.all flatD = true
              · exact ⟨[], ho.flat_rds hfl _⟩
              have hst' : w0.st = false := hst.trans (hsf.resolve_right hfl)
              refine ⟨[], ho.rds (fun q hqf => ⟨ho.lt q hqf, fun ht => ?_, hm.rd hst' (mem_flat h5 (hq q hqf).1)⟩)⟩
              -- a block that hangs on the slot is no slot's head
              obtain ⟨s2, x2, c2, k1, k2, k3⟩ := ht
              obtain ⟨hd2, F2, k4, k5, k6⟩ := hm.at_ k1
              rw [k3] at k4
              cases k4
              have hq2 := k6.head k2
              by_cases hss : s2 = s
              · subst hss
                rw [h2] at k3
                cases k3
                exact (hq _ hqf).2 rfl
              · exact flat_disj hm.nd h5 k5 (fun e => hss e.symm) q (hq q hqf).1 hq2
        · cases h
      · cases h
    · cases h
  · cases h
theorem fieldOf_some {t : TypeId} {f o : Nat} {ft : TypeId} (h : fieldOf P t f = some (o, ft)) : ∃ (fs : Array Field) (x : Field), P.underlying t = some (.struct fs) ∧ fs[f]? = some x ∧ x.offset = o ∧ x.type = ft := by
  unfold fieldOf at h
  split at h
  · rename_i fs ht
    rw [Option.map_eq_some_iff] at h
    obtain ⟨x, h1, h2⟩ := h
    cases h2
    exact ⟨fs, x, ht, h1, rfl, rfl⟩
  · cases h
theorem run_fieldAt {t : TypeId} {f o g p : Nat} {ft : TypeId} (h : fieldOf P t f = some (o, ft)) (hz : P.cellsOf ft ≠ 0) : (Instr.fieldAt t (.pointer (some ⟨g, p, none⟩)) f).run P w = .ok (.pointer (some ⟨g, p + o, none⟩)) w := by
  obtain ⟨fs, x, h1, h2, h3, h4⟩ := fieldOf_some h
  subst h3 h4
  simp [Instr.fieldAt, run_underlying h1, h2, Instr.sureAddr, fieldPlace, run_sizeOf0 hz, hz, add_none]
theorem fieldAddrV_sound {G : Nat → Prop} {sl : List Slot} {t : TypeId} {f : Nat} {x y : V} {v : Value} (h : fieldAddrV P t sl x f = some y) (hx : VR w G φ sl x v) :
    ∃ u, (Instr.fieldAt t v f).run P w = .ok u w ∧ VR w G φ sl y u := by
  unfold fieldAddrV at h
  split at h
  · cases h
  rename_i o ft ho
  split at h
  · cases h
  rename_i hz
  split at h
  · obtain rfl := Option.some.inj h
    cases hx with
    | cptr u hG hc hr =>
      refine ⟨_, run_fieldAt ho hz, .cptr (fun j => u (o + j)) hG (fun j d hd => ?_) (fun j d hd => ?_)⟩
      · rw [List.getElem?_drop] at hd
        rw [← hc _ d hd, Nat.add_assoc]
      · rw [List.getElem?_drop] at hd
        exact hr _ d hd
  · split at h
    · rename_i hs
      obtain rfl := Option.some.inj h
      cases hx with
      | lost h1 => rw [hs] at h1; cases h1
      | ptr h1 h2 h3 => exact ⟨_, run_fieldAt ho hz, .ptr h1 h2 h3⟩
    · cases h
  · split at h
    · rename_i hs
      obtain rfl := Option.some.inj h
      cases hx with
      | elost h1 => rw [hs] at h1; cases h1
      | eptr h1 h2 => exact ⟨_, run_fieldAt ho hz, by rw [Nat.add_assoc]; exact .eptr h1 h2⟩
    · cases h
  · cases h
theorem extract_drop (vs : List Value) (o n : Nat) : vs.toArray.extract o (o + n) = ((vs.drop o).take n).toArray := by
  apply Array.ext'
  simp [List.extract_eq_take_drop]
theorem fieldV_sound {G : Nat → Prop} {sl : List Slot} {t : TypeId} {f : Nat} {x y : V} {v : Value} (h : fieldV P t x f = some y) (hx : VR w G φ sl x v) :
    ∃ u, (Instr.field t v f).run P w = .ok u w ∧ VR w G φ sl y u := by
  unfold fieldV at h
  split at h
  · cases h
  rename_i o ft ho
  split at h
  · cases h
  rename_i hz
  replace hz := isSome_of hz
  obtain ⟨fs, z, h1, h2, h3, h4⟩ := fieldOf_some ho
  subst h3 h4
  split at h
  · rename_i xs
    cases hx with
    | agg hl hone hv =>
      rename_i vs
      have hrun : (Instr.field t (.agg vs.toArray) f).run P w = (part z.type vs.toArray z.offset).run P w := by
        simp [Instr.field, run_underlying h1, h2, asAgg]
      rw [hrun]
      unfold part
      simp only [Sem.run_bind, run_isAgg hz, Result.andThen_ok]
      unfold takeV at h
      split at h
      · rename_i ha
        rw [if_pos ha]
        split at h
        · rename_i hle
          obtain rfl := Option.some.inj h
          refine ⟨.agg ((vs.drop z.offset).take (P.cellsOf z.type)).toArray, ?_, vr_agg (by simp [hl]) (fun i x v hx hv' => ?_)⟩
          · simp only [Sem.run_bind, run_sizeOf' hz, Result.andThen_ok, Sem.run_pure, extract_drop]
          · rw [List.getElem?_take, List.getElem?_drop] at hx hv'
            split at hx
            · rename_i hi
              rw [if_pos hi] at hv'
              exact ⟨hv _ x v hx hv', hone v (List.mem_of_getElem? hv')⟩
            · cases hx
        · cases h
      · rename_i ha
        rw [if_neg ha]
        split at h
        · rename_i x xs' hd
          obtain rfl := Option.some.inj h
          have hx0 : xs[z.offset]? = some x := by
            have := congrArg (fun l => l[0]?) hd
            simpa [List.getElem?_drop] using this
          have hlt : z.offset < vs.length := by rw [hl]; exact (List.getElem?_eq_some_iff.1 hx0).1
          refine ⟨vs[z.offset], ?_, hv _ x _ hx0 (List.getElem?_eq_getElem hlt)⟩
          simp [List.getElem?_eq_getElem hlt]
        · cases h
  · cases h

/-! ### Structs out of their parts -/
theorem foldl_put (off : Nat) : ∀ (vs : List Value) (k : Nat) (cs : List Value), off + k + vs.length ≤ cs.length →
    (vs.zipIdx k).foldl (fun (cs : Array Value) p => cs.setIfInBounds (off + p.2) p.1) cs.toArray = (cs.take (off + k) ++ vs ++ cs.drop (off + k + vs.length)).toArray
  | [], k, cs, _ => by simp
  | v :: vs, k, cs, h => by
    simp only [List.length_cons] at h
    rw [List.zipIdx_cons, List.foldl_cons]
    have hset : cs.toArray.setIfInBounds (off + k) v = (cs.set (off + k) v).toArray := by simp
    show List.foldl _ (cs.toArray.setIfInBounds (off + k) v) _ = _
    rw [hset, foldl_put off vs (k + 1) (cs.set (off + k) v) (by simp; omega)]
    congr 1
    apply List.ext_getElem?
    intro i
    simp only [List.length_cons]
    have e1 : (List.take (off + (k + 1)) (cs.set (off + k) v)) = cs.take (off + k) ++ [v] := by
      apply List.ext_getElem?
      intro j
      rw [List.getElem?_take]
      by_cases hj : j < off + k
      · rw [if_pos (by omega), List.getElem?_set_ne (by omega), List.getElem?_append_left (by simp; omega), List.getElem?_take, if_pos hj]
      · by_cases hj2 : j = off + k
        · subst hj2
          rw [if_pos (by omega), List.getElem?_set_self (by omega), List.getElem?_append_right (by simp; omega)]
          have : (List.take (off + k) cs).length = off + k := by simp; omega
          rw [this]; simp
        · rw [if_neg (by omega), List.getElem?_eq_none (by simp; omega)]
    have e2 : (cs.set (off + k) v).drop (off + (k + 1) + vs.length) = cs.drop (off + k + (vs.length + 1)) := by
      apply List.ext_getElem?
      intro j
      rw [List.getElem?_drop, List.getElem?_drop, List.getElem?_set_ne (by omega)]
      congr 1
      omega
    rw [e1, e2]
    simp
theorem fill_one (cs vs : List Value) (off : Nat) (h : off + vs.length ≤ cs.length) :
    vs.toArray.zipIdx.foldl (fun cs (p : Value × Nat) => cs.setIfInBounds (off + p.2) p.1) cs.toArray = (putAt cs off vs).toArray := by
  have := foldl_put off vs 0 cs (by omega)
  simp only [Nat.add_zero] at this
  rw [← Array.foldl_toList]
  simpa [putAt] using this
theorem putAt_length {α : Type} {xs : List α} {o : Nat} {ys : List α} (h : o + ys.length ≤ xs.length) : (putAt xs o ys).length = xs.length := by
  simp [putAt]; omega
theorem putAt_at {α : Type} {xs : List α} {o : Nat} {ys : List α} (h : o + ys.length ≤ xs.length) (i : Nat) : (putAt xs o ys)[i]? = if i < o then xs[i]? else if i < o + ys.length then ys[i - o]? else xs[i]? := by
  unfold putAt
  have ht : (xs.take o).length = o := by simp; omega
  by_cases h1 : i < o
  · rw [if_pos h1, List.append_assoc, List.getElem?_append_left (by omega), List.getElem?_take, if_pos h1]
  · rw [if_neg h1, List.append_assoc, List.getElem?_append_right (by omega), ht]
    by_cases h2 : i < o + ys.length
    · rw [if_pos h2, List.getElem?_append_left (by omega)]
    · rw [if_neg h2, List.getElem?_append_right (by omega), List.getElem?_drop]
      congr 1
      omega
/-- Cells and their values. -/
def VRs (w : World) (G : Nat → Prop) (φ : Hdrs) (sl : List Slot) (xs : List V) (vs : List Value) : Prop := vs.length = xs.length ∧ ∀ (i : Nat) (x : V) (v : Value), xs[i]? = some x → vs[i]? = some v → VR w G φ sl x v ∧ v.oneCell' = true
theorem VRs.put {G : Nat → Prop} {sl : List Slot} {xs ys : List V} {vs us : List Value} {o : Nat} (h : VRs w G φ sl xs vs) (hy : VRs w G φ sl ys us) (ho : o + ys.length ≤ xs.length) : VRs w G φ sl (putAt xs o ys) (putAt vs o us) := by
  have hl : o + us.length ≤ vs.length := by rw [h.1, hy.1]; exact ho
  refine ⟨by rw [putAt_length hl, putAt_length ho, h.1], fun i x v hx hv => ?_⟩
  rw [putAt_at ho] at hx
  rw [putAt_at hl, hy.1] at hv
  split at hx
  · rename_i h1; rw [if_pos h1] at hv; exact h.2 i x v hx hv
  · rename_i h1
    rw [if_neg h1] at hv
    split at hx
    · rename_i h2; rw [if_pos h2] at hv; exact hy.2 _ x v hx hv
    · rename_i h2; rw [if_neg h2] at hv; exact h.2 i x v hx hv
theorem VR.cells {G : Nat → Prop} {sl : List Slot} {x : V} {v : Value} (h : VR w G φ sl x v) (hc : (cellsV x).all V.cell = true) : VRs w G φ sl (cellsV x) v.cells.toList := by
  have one : x.cell = true → (cellsV x = [x]) → VRs w G φ sl (cellsV x) v.cells.toList := by
    intro h1 h2
    have ho := h.one h1
    have hv : v.cells.toList = [v] := by cases v <;> first | rfl | simp [Value.oneCell'] at ho
    rw [h2, hv]
    refine ⟨rfl, fun i y u hy hu => ?_⟩
    match i with
    | 0 => simp at hy hu; subst hy hu; exact ⟨h, ho⟩
    | i + 1 => simp at hy
  cases x with
  | agg xs =>
    cases h with
    | agg hl h1 hv => exact ⟨by simpa [Value.cells, cellsV] using hl, fun i y u hy hu => by
        simp only [cellsV] at hy
        simp only [Value.cells] at hu
        exact ⟨hv i y u hy hu, h1 u (List.mem_of_getElem? hu)⟩⟩
  | any => simp [cellsV, V.cell] at hc
  | tup xs => simp [cellsV, V.cell] at hc
  | _ => exact one rfl rfl
theorem fill_sound {G : Nat → Prop} {sl : List Slot} {place place' : Nat → Option (Nat × Nat)} (hp : ∀ f p, place f = some p → place' f = some p) :
    ∀ {ps : List (Nat × V)} {qs : List (Nat × Value)} {xs ys : List V} {vs : List Value}, fillV place xs ps = some ys → VRs w G φ sl xs vs → qs.length = ps.length →
      (∀ (i : Nat) (p : Nat × V) (q : Nat × Value), ps[i]? = some p → qs[i]? = some q → q.1 = p.1 ∧ VR w G φ sl p.2 q.2) →
      ∃ us, Instr.fill place' vs.toArray qs = some us.toArray ∧ VRs w G φ sl ys us
  | [], [], xs, ys, vs, h, hv, _, _ => by
    simp only [fillV, Option.some.injEq] at h
    subst h
    exact ⟨vs, rfl, hv⟩
  | (f, x) :: ps, (f', v) :: qs, xs, ys, vs, h, hv, hl, hpq => by
    obtain ⟨h1, h2⟩ := hpq 0 _ _ rfl rfl
    simp only at h1 h2
    subst h1
    unfold fillV at h
    split at h
    · cases h
    rename_i o n ho
    split at h
    · rename_i hc
      obtain ⟨hc1, hc2, hc3⟩ := hc
      have hcells := h2.cells hc3
      have hsz : v.cells.size = n := by rw [← hc1, ← hcells.1]; simp
      obtain ⟨us, hu, hr⟩ := fill_sound hp h (hv.put hcells (by omega)) (by simpa using hl) (fun i p q hp hq => hpq (i + 1) p q (by simpa using hp) (by simpa using hq))
      refine ⟨us, ?_, hr⟩
      unfold Instr.fill
      rw [hp _ _ ho]
      show (if (decide (v.cells.size ≠ n) || decide (o + v.cells.size > vs.toArray.size)) = true then none else Instr.fill place' (v.cells.zipIdx.foldl (fun cs (p : Value × Nat) => cs.setIfInBounds (o + p.2) p.1) vs.toArray) qs) = _
      have hle : (decide (v.cells.size ≠ n) || decide (o + v.cells.size > vs.toArray.size)) = false := by
        rw [hsz]; simp; rw [hv.1]; omega
      have := fill_one vs v.cells.toList o (by rw [hv.1]; simp; omega)
      simp only [Array.toArray_toList] at this
      rw [this]
      simp only [hle]
      exact hu
    · cases h
  | [], _ :: _, _, _, _, _, _, hl, _ => by simp at hl
  | _ :: _, [], _, _, _, _, _, hl, _ => by simp at hl
theorem zeros_places {t : TypeId} {fs : Array Field} {z : List V} (ht : P.underlying t = some (.struct fs)) (h : zeros P t = some z) :
    fs.toList.mapM (fun f => (P.info? f.type).map fun i => (f.offset, i.size)) = some (fs.toList.map fun f => (f.offset, P.cellsOf f.type)) := by
  unfold zeros at h
  rw [ht] at h
  simp only at h
  clear ht
  generalize fs.toList = l at h
  induction l generalizing z with
  | nil => rfl
  | cons f l ih =>
    simp only [List.mapM_cons, Option.bind_eq_bind, Option.pure_def] at h ⊢
    cases h1 : zero1 P f.type with
    | none => simp [h1] at h
    | some x =>
      rw [h1] at h
      cases h2 : l.mapM (fun f => zero1 P f.type) with
      | none => simp [h2] at h
      | some ys =>
        rw [ih h2]
        cases hi : P.info? f.type with
        | none => unfold zero1 at h1; simp [Program.underlying, hi] at h1
        | some i => simp [Program.cellsOf, hi]
theorem zeroV_some {t : TypeId} {z : List V} (h : zeroV P t = some z) : ∃ i v, P.info? t = some i ∧ i.zero = some v ∧ cellsOk z v.cells.toList = true ∧ i.size = z.length ∧ v.cells.size = i.size ∧ zeros P t = some z := by
  unfold zeroV at h
  split at h
  · rename_i xs i h1 h2
    split at h
    · rename_i v hv
      split at h
      · rename_i hc
        obtain rfl := Option.some.inj h
        exact ⟨i, v, h2, hv, hc.1, hc.2.1, hc.2.2, h1⟩
      · cases h
    · cases h
  · cases h
theorem build_sound {G : Nat → Prop} {sl : List Slot} {t : TypeId} {fs : Array Field} {z ys : List V} {ps : Array (Nat × Operand)} {f : Operand → V} {g : Operand → Value} (ht : P.underlying t = some (.struct fs)) (hz : zeroV P t = some z)
    (h : fillV (placeOf P t) z (ps.toList.map fun p => (p.1, f p.2)) = some ys) (hv : ∀ x, VR w G φ sl (f x) (g x)) :
    ∃ u, (Instr.build t (ps.map fun (i, x) => (i, g x))).run P w = .ok u w ∧ VR w G φ sl (.agg ys) u := by
  obtain ⟨i, v, h1, h2, h3, h4, h5, h6⟩ := zeroV_some hz
  have hpl := zeros_places ht h6
  obtain ⟨us, hu, hr⟩ := fill_sound (w := w) (φ := φ) (G := G) (sl := sl) (place' := fun i => (fs.toList.map fun f => (f.offset, P.cellsOf f.type))[i]?) (fun f p hp => by
      unfold placeOf at hp
      rw [Option.map_eq_some_iff] at hp
      obtain ⟨⟨o, ft⟩, ho, rfl⟩ := hp
      obtain ⟨fs', x, k1, k2, k3, k4⟩ := fieldOf_some ho
      rw [ht] at k1
      cases k1
      show (fs.toList.map fun f => (f.offset, P.cellsOf f.type))[f]? = _
      rw [List.getElem?_map, Array.getElem?_toList, k2]
      simp [k3, k4]) (qs := ps.toList.map fun p => (p.1, g p.2)) h (vs := v.cells.toList) (cellsOk_vr h3) (by simp) (fun i p q hp hq => by
      rw [List.getElem?_map, Option.map_eq_some_iff] at hp hq
      obtain ⟨a, ha, rfl⟩ := hp
      obtain ⟨b, hb, rfl⟩ := hq
      rw [ha] at hb
      cases hb
      exact ⟨rfl, hv _⟩)
  refine ⟨.agg us.toArray, run_build w t _ _ ?_, vr_agg hr.1 hr.2⟩
  unfold Program.built
  rw [h1, ht]
  simp only [h2, hpl]
  simpa using hu

/-! ### The whole -/
theorem lenOp {t ty : TypeId} {A : Option Addr} {n c : Nat} (h : (elemOf P t).isSome = true) : (Builtin.len_ #[t] ty #[.slice A n c]).run P w = .ok (.int .i64 n) w := by
  cases he : elemOf P t with
  | none => simp [he] at h
  | some e => simp [Builtin.len_, run_underlying (elemOf_some he), goInt]
theorem boundV_sound (hr : Rel P w0 φ σ a w) {x : Option Operand} {d n : Nat} (h : boundV σ x d = some n) : (x = none ∧ n = d) ∨ ∃ y k, x = some y ∧ a.eval y = .int k n := by
  unfold boundV at h
  split at h
  · cases h; exact .inl ⟨rfl, rfl⟩
  · rename_i y
    split at h
    · rename_i m hm
      split at h
      · rename_i h0
        cases h
        unfold intOf? at hm
        split at hm
        · rename_i k m' he
          cases hm
          have := hr.eval y
          rw [he] at this
          exact .inr ⟨y, k, rfl, by rw [this.int]; simp [Int.toNat_of_nonneg h0]⟩
        · cases hm
      · cases h
    · cases h
theorem run_sliceAt {t e : TypeId} {A : Option Addr} {len cap lo hi : Nat} {vlo vhi : Option Value} (ht : P.underlying t = some (.slice e)) (hs : (P.underlying e).isSome = true)
    (hlo : (vlo = none ∧ lo = 0) ∨ ∃ k, vlo = some (.int k lo)) (hhi : (vhi = none ∧ hi = len) ∨ ∃ k, vhi = some (.int k hi)) (h1 : lo ≤ hi) (h2 : hi ≤ cap) :
    (Instr.sliceAt t (.slice A len cap) vlo vhi none).run P w = .ok (.slice (if cap = lo then A else A.map (·.add (lo * P.cellsOf e))) (hi - lo) (cap - lo)) w := by
  have hb : (Instr.sliceBounds true len cap vlo vhi none).run P w = .ok (lo, hi, cap) w := by
    unfold Instr.sliceBounds
    rcases hlo with ⟨rfl, rfl⟩ | ⟨k, rfl⟩ <;> rcases hhi with ⟨rfl, rfl⟩ | ⟨k', rfl⟩ <;> simp [Instr.sliceBound, asIntOf, h1, h2]
  simp [Instr.sliceAt, run_underlying ht, Instr.slice, hb, run_sizeOf' hs]
theorem Rd.part {G : Nat → Prop} {t : TypeId} {es : List (List D)} {A : Option Addr} {n c lo hi s : Nat} (h : Rd w G (.sl t es) (.slice A n c)) (h1 : lo ≤ hi) (h2 : hi ≤ es.length) (hs : ∀ e ∈ es, e.length = s) :
    hi ≤ c ∧ Rd w G (.sl t ((es.take hi).drop lo)) (.slice (if c = lo then A else A.map (·.add (lo * s))) (hi - lo) (c - lo)) := by
  cases h with
  | nil =>
    simp only [List.length_nil, Nat.le_zero] at h2
    subst h2
    obtain rfl : lo = 0 := by omega
    exact ⟨by omega, .nil _ _ _⟩
  | sl _ _ b o _ ss u hn hcap hG hls hcc hrr =>
    refine ⟨by omega, ?_⟩
    by_cases h0 : hi = lo
    · subst h0
      have : (es.take hi).drop hi = [] := List.drop_eq_nil_of_le (by simp; omega)
      rw [this, Nat.sub_self]
      exact .nil _ _ _
    · have hl : ((es.take hi).drop lo).length = hi - lo := by simp; omega
      have hc : ¬ c = lo := by omega
      rw [if_neg hc, ← hl]
      have hat : ∀ (i : Nat) (e : List D), ((es.take hi).drop lo)[i]? = some e → es[lo + i]? = some e := by
        intro i e he
        rw [List.getElem?_drop, List.getElem?_take] at he
        split at he
        · exact he
        · cases he
      have hss : ss = s := by
        have hlt : lo < es.length := by omega
        have hm := List.getElem_mem hlt
        rw [← hls _ hm, hs _ hm]
      subst hss
      have := Rd.sl (w := w) (G := G) t ((es.take hi).drop lo) b (o + lo * ss) (c - lo) ss (fun i j => u (lo + i) j) (by omega) (by omega) hG (fun e he => hls e (List.mem_of_mem_take (List.mem_of_mem_drop he)))
        (fun i e j d he hd => by have := hcc (lo + i) e j d (hat i e he) hd; rw [← this]; congr 2; rw [Nat.add_mul]; omega) (fun i e j d he hd => hrr (lo + i) e j d (hat i e he) hd)
      rw [Option.map_some, add_none]
      exact this
theorem partV_sound (hr : Rel P w0 φ σ a w) {t : TypeId} {x y : V} {lo hi : Option Operand} {n c : Nat} {A : Option Addr} (h : partV P t x (boundV σ lo 0) (boundV σ hi n) = some y) (hx : σ.vr w0.R φ w x (.slice A n c)) :
    ∃ u, (Instr.sliceAt t (.slice A n c) (lo.map a.eval) (hi.map a.eval) none).run P w = .ok u w ∧ σ.vr w0.R φ w y u := by
  unfold partV at h
  split at h
  · cases h
  rename_i e he
  split at h
  · cases h
  rename_i hs
  replace hs := isSome_of hs
  split at h
  · rename_i t' es l m hl hh
    split at h
    · rename_i hc
      cases h
      cases hx with
      | d hd =>
        obtain ⟨k1, k2⟩ := hd.part hc.1 hc.2.1 (fun e he => by have := List.all_eq_true.1 hc.2.2 e he; simpa using this)
        refine ⟨_, run_sliceAt (elemOf_some he) hs ?_ ?_ hc.1 k1, .d k2⟩
        · rcases boundV_sound hr hl with ⟨rfl, rfl⟩ | ⟨y, k, rfl, hy⟩
          · exact .inl ⟨rfl, rfl⟩
          · exact .inr ⟨k, by simp [hy]⟩
        · rcases boundV_sound hr hh with ⟨rfl, rfl⟩ | ⟨y, k, rfl, hy⟩
          · exact .inl ⟨rfl, rfl⟩
          · exact .inr ⟨k, by simp [hy]⟩
    · cases h
  · cases h
theorem apure_sound {st : Bool} (hst : w0.st = st) {o : Oper} {x : V} (h : apure P st σ o = some x) (hr : Rel P w0 φ σ a w) : ∃ v, (execOp a.eval o).run P w = .ok (.value v) w ∧ σ.vr w0.R φ w x v := by
  obtain ⟨Fs, hm⟩ := hr.mem
  unfold apure at h
  split at h
  · rename_i y ho
    obtain rfl := Option.some.inj h
    exact ⟨a.eval y, by simp [execOp, ho], hr.evalT _ _⟩
  · rename_i y ho
    obtain rfl := Option.some.inj h
    exact ⟨a.eval y, by simp [execOp, ho], hr.evalT _ _⟩
  · rename_i c y z ho
    split at h
    · rename_i t hc
      obtain rfl := Option.some.inj h
      have h1 := hr.eval c
      rw [hc] at h1
      exact ⟨_, by simp [execOp, ho, h1.bool, asBool], pick_vr (hr.eval y) (hr.eval z)⟩
    · cases h
  · rename_i op t y z yt ho
    obtain ⟨v, h1, h2, h3⟩ := abin_sound (hr.eval y) (hr.eval z) h
    exact ⟨v, by simp [execOp, ho, h1, h3], h2⟩
  · rename_i op t y ho
    obtain ⟨v, h1, h2⟩ := aun_sound (P := P) (hr.eval y) h
    exact ⟨v, by simp [execOp, ho, h1], h2⟩
  · rename_i s d y ho
    split at h
    · rename_i ts k kk n hs hd hy
      obtain rfl := Option.some.inj h
      have h1 := hr.eval y
      rw [hy] at h1
      refine ⟨.int k (k.wrap n), ?_, .d (.int _ _)⟩
      simp [execOp, ho, h1.int, convert, run_underlying hs, run_underlying hd]
      cases ts <;> simp [Conv.intToInt]
    · cases h
  · rename_i c ho
    split at h
    · rename_i b hb
      have hrun : ∀ v, (∀ cs, (builtin b c.argTypes o.type cs (c.args.map a.eval)).run P w = .ok (.value v) w) → (execOp a.eval o).run P w = .ok (.value v) w := by
        intro v hv
        simp [execOp, ho, resolve, hb, invoke, hv]
      have hargs : ∀ (xs : List V), c.args.toList.map σ.eval = xs → ∃ vs : List Value, c.args.map a.eval = vs.toArray ∧ vs.length = xs.length ∧ ∀ (i : Nat) (x : V) (v : Value), xs[i]? = some x → vs[i]? = some v → σ.vr w0.R φ w x v := by
        intro xs hxs
        refine ⟨c.args.toList.map a.eval, by apply Array.ext'; simp, by rw [← hxs]; simp, fun i x v hx hv => ?_⟩
        rw [← hxs, List.getElem?_map, Option.map_eq_some_iff] at hx
        rw [List.getElem?_map, Option.map_eq_some_iff] at hv
        obtain ⟨p, hp, rfl⟩ := hx
        obtain ⟨q, hq, rfl⟩ := hv
        rw [hp] at hq
        cases hq
        exact hr.eval p
      unfold abuiltin at h
      split at h
      · split at h
        · rename_i y t hxs hts
          split at h
          · rename_i e he
            rw [Option.map_eq_some_iff] at h
            obtain ⟨n, hn, rfl⟩ := h
            obtain ⟨vs, k1, k2, k3⟩ := hargs _ hxs
            match vs, k2 with
            | [v], _ =>
              obtain ⟨A, cc, hv⟩ := lenV_sound hn (k3 0 y v rfl rfl)
              have hts' : c.argTypes = #[t] := by rw [← Array.toArray_toList (xs := c.argTypes), hts]
              refine ⟨.int .i64 n, hrun _ fun cs => ?_, .d (.int _ _)⟩
              rw [k1, hts', hv]
              simp [builtin, lenOp (w := w) (ty := o.type) (by rw [he]; rfl : (elemOf P t).isSome = true)]
          · cases h
        · cases h
      · split at h
        · rename_i k m k' n hxs
          obtain rfl := Option.some.inj h
          obtain ⟨vs, k1, k2, k3⟩ := hargs _ hxs
          match vs, k2 with
          | [v, u], _ =>
            obtain rfl := (k3 0 _ v rfl rfl).int
            obtain rfl := (k3 1 _ u rfl rfl).int
            refine ⟨_, hrun _ fun cs => ?_, .d (.int _ _)⟩
            rw [k1]
            simp [builtin, run_max_int2]
        · cases h
      · split at h
        · rename_i k m k' n hxs
          obtain rfl := Option.some.inj h
          obtain ⟨vs, k1, k2, k3⟩ := hargs _ hxs
          match vs, k2 with
          | [v, u], _ =>
            obtain rfl := (k3 0 _ v rfl rfl).int
            obtain rfl := (k3 1 _ u rfl rfl).int
            refine ⟨_, hrun _ fun cs => ?_, .d (.int _ _)⟩
            rw [k1]
            simp [builtin, run_min_int2]
        · cases h
      · cases h
    · cases h
  · rename_i t y i ho
    split at h
    · rename_i n hn
      obtain ⟨k, hk⟩ : ∃ k, σ.eval i = .d (.int k n) := by
        unfold intOf? at hn
        split at hn
        · rename_i k n' he; cases hn; exact ⟨k, he⟩
        · cases hn
      have h1 := hr.eval i
      rw [hk] at h1
      obtain ⟨u, h2, h3⟩ := indexV_sound (P := P) (k := k) h (hr.eval y) (fun s x A c hs hp hl t ow es hx hA => by
        subst hx hA
        obtain ⟨hd, F, k1, k2, k3⟩ := hm.at_ hs
        rw [hp] at k1
        cases k1
        cases ow <;>
        · obtain ⟨q1, q2, ⟨_, q3, _⟩ | ⟨g, _, _, q3, _⟩⟩ := k3
          · simp only at q3 q2
            exact List.eq_nil_of_length_eq_zero (by omega)
          · cases q3)
      exact ⟨u, by simp [execOp, ho, h1.int, h2], h3⟩
    · cases h
  · rename_i t y ho
    obtain ⟨u, h1, h2⟩ := loadV_sound hst h hm (hr.eval y)
    exact ⟨u, by simp [execOp, ho, h1], h2⟩
  · rename_i t y f ho
    obtain ⟨u, h1, h2⟩ := fieldAddrV_sound h (hr.eval y)
    exact ⟨u, by simp [execOp, ho, h1], h2⟩
  · rename_i t y f ho
    obtain ⟨u, h1, h2⟩ := fieldV_sound h (hr.eval y)
    exact ⟨u, by simp [execOp, ho, h1], h2⟩
  · rename_i y i ho
    split at h
    · rename_i xs hy
      have h1 := hr.eval y
      rw [hy] at h1
      generalize hv : a.eval y = v at h1
      cases h1 with
      | tup hl hx =>
        rename_i vs
        have hi : i < vs.length := by rw [hl]; exact (List.getElem?_eq_some_iff.1 h).1
        refine ⟨vs[i], ?_, hx i x _ h (List.getElem?_eq_getElem hi)⟩
        simp [execOp, ho, hv, Instr.extract, List.getElem?_eq_getElem hi]
    · cases h
  · rename_i y ho
    have h1 := hr.eval y
    split at h
    · rename_i s p hy
      split at h
      · rename_i hs
        obtain rfl := Option.some.inj h
        rw [hy] at h1
        generalize hv : a.eval y = v at h1
        refine ⟨v, ?_, h1⟩
        cases h1 with
        | lost h1 => rw [hs] at h1; cases h1
        | ptr => simp [execOp, ho, hv]
      · cases h
    · rename_i ds hy
      obtain rfl := Option.some.inj h
      rw [hy] at h1
      generalize hv : a.eval y = v at h1
      refine ⟨v, ?_, h1⟩
      cases h1
      simp [execOp, ho, hv]
    · cases h
  · rename_i t ps ho
    split at h
    · rename_i fs z ht hz
      rw [Option.map_eq_some_iff] at h
      obtain ⟨ys, h1, rfl⟩ := h
      obtain ⟨u, h2, h3⟩ := build_sound ht hz h1 (fun x => hr.eval x)
      exact ⟨u, by simp at h2; simp [execOp, ho, h2], h3⟩
    · cases h
  · rename_i f first caps ho
    split at h
    · rename_i hf
      cases h
      have h1 : first = #[] := Array.isEmpty_iff.1 hf
      refine ⟨.func (.func f) #[] (caps.toList.map a.eval).toArray, ?_, .fn (by simp) fun i x v hx hv => ?_⟩
      · simp [execOp, ho, h1, Instr.makeFunc]
        apply Array.ext'
        simp
      · rw [List.getElem?_map, Option.map_eq_some_iff] at hx hv
        obtain ⟨p, hp, rfl⟩ := hx
        obtain ⟨q, hq, rfl⟩ := hv
        rw [hp] at hq
        cases hq
        exact hr.eval p
    · cases h
  · rename_i t y lo hi ho
    split at h
    · rename_i n hn
      have hy := hr.eval y
      obtain ⟨A, c, hv⟩ := lenV_sound hn hy
      obtain ⟨u, h1, h2⟩ := partV_sound (σ := σ) (lo := lo) (hi := hi) hr h (by rw [← hv]; exact hy)
      refine ⟨u, ?_, h2⟩
      rw [← hv] at h1
      simp [execOp, ho, h1]
    · cases h
  · cases h
end
end Go.Proofs.Ytdliejnmpdodhaa
