/-
  The model's code gives what the abstract walk gives; contracts out of abstract walks. Plain lemmas, about no function of the program.
  Conditions: those typed in each theorem.
-/
import Derived.Test.YtdliejnmpdodhaaVd4
import Derived.Test.YtdliejnmpdodhaaVk3
import Derived.Test.YtdliejnmpdodhaaVx
import Derived.Deep.LoopGhost
namespace Go.Proofs.Ytdliejnmpdodhaa
open Go.RowKit Go.ChangeShapes Go.WideShapes
set_option linter.unusedVariables false

section
variable {P : Program} {w0 : Base} {w w' : World} {φ φ' : Hdrs} {σ σ' : St} {a : Act} {sl sl' : List Slot} {Fs Fs' : List (List Nat)}
theorem St.put_slots (σ : St) (d : Option Nat) (x : V) : (σ.put d x).slots = σ.slots := by cases d <;> rfl
theorem row_take {R : List D → List Value → List Nat → Prop} {t : TypeId} {es : List (List D)} {A : Option Nat} {c : Nat} {F : List Nat} (h : RowOf P w R t es A c F) (n : Nat) : ∃ F', RowOf P w R t (es.take n) A c F' ∧ ∀ q, F'.count q ≤ F.count q := by
  obtain ⟨h1, h2, ⟨rfl, rfl, rfl⟩ | ⟨g, cur, Gs, rfl, h3, h4, h5, h6, h7, rfl⟩⟩ := h
  · exact ⟨[], ⟨h1, by rw [List.length_take]; omega, .inl ⟨rfl, rfl, rfl⟩⟩, by simp⟩
  · refine ⟨g :: (Gs.take n).flatten, ⟨h1, by simp; omega, .inr ⟨g, cur, Gs.take n, rfl, h3, h4, by simp [h5], fun e he => h6 e (List.mem_of_mem_take he), fun i e f he hf => ?_, rfl⟩⟩, fun q => ?_⟩
    · rw [List.getElem?_take] at he hf
      split at he
      · rename_i hi; rw [if_pos hi] at hf; exact h7 i e f he hf
      · cases he
    · have e1 : Gs.flatten = (Gs.take n).flatten ++ (Gs.drop n).flatten := by rw [← List.flatten_append, List.take_append_drop]
      rw [List.count_cons, List.count_cons, e1, List.count_append]
      omega
theorem sliceT_sound (hst : w0.st = false) (hr : Rel P w0 φ σ a w) {t : TypeId} {s n : Nat} {lo hi : Option Operand} {z : V} {sl' : List Slot} {v : Value} (hn : lenV σ.slots (.ref s) = some n) (h : sliceT P t σ.slots s lo hi (boundV σ lo 0) (boundV σ hi n) = some (z, sl'))
    (hv : σ.vr w0.R φ w (.ref s) v) : ∃ u φ', (Instr.sliceAt t v (lo.map a.eval) (hi.map a.eval) none).run P w = .ok u w ∧ Turn P w0 φ σ.slots w φ' sl' w ∧ VR w (good w0.R φ' sl' w) φ' sl' z u := by
  obtain ⟨Fs, hm⟩ := hr.mem
  unfold sliceT at h
  split at h
  · rename_i e t' ow es l m he hs hl hh
    have hlen : n = es.length := by simp [lenV, hs] at hn; exact hn.symm
    subst hlen
    split at h
    · rename_i hc
      obtain ⟨c1, c2, c3, c4⟩ := hc
      cases hv with
      | gone h1 => rw [hs] at h1; cases h1
      | @ref _ _ _ _ A c h1 h2 =>
        rw [hs] at h1
        cases h1
        obtain ⟨hd, F, k1, k2, k3⟩ := hm.at_ hs
        rw [h2] at k1
        cases k1
        have hcap : es.length ≤ c := by cases ow <;> exact k3.2.1
        have hbl := boundV_sound hr hl
        have hbh := boundV_sound hr hh
        have hrun : (Instr.sliceAt t (.slice (hdr A) es.length c) (lo.map a.eval) (hi.map a.eval) none).run P w = .ok (.slice (if c = l then hdr A else (hdr A).map (·.add (l * P.cellsOf e))) (m - l) (c - l)) w := by
          refine run_sliceAt (elemOf_some he) c1 ?_ ?_ c2 (by omega)
          · rcases hbl with ⟨rfl, rfl⟩ | ⟨y, k, rfl, hy⟩
            · exact .inl ⟨rfl, rfl⟩
            · exact .inr ⟨k, by simp [hy]⟩
          · rcases hbh with ⟨rfl, rfl⟩ | ⟨y, k, rfl, hy⟩
            · exact .inl ⟨rfl, rfl⟩
            · exact .inr ⟨k, by simp [hy]⟩
        split at h
        · cases h
          have hl0 : l = 0 := by simp [boundV] at hl; exact hl.symm
          subst hl0
          have hval : (if c = 0 then hdr A else (hdr A).map (·.add (0 * P.cellsOf e))) = hdr A := by
            split
            · rfl
            · cases A <;> simp [Addr.add]
          rw [hval] at hrun
          have hsr : ∃ F', (∀ φ' sl', Ext w0.R φ σ.slots w φ' sl' w → SR P w (good w0.R φ' sl' w) φ' sl' (.arr t' ow (es.take m)) (A, c) F') ∧ ∀ q, F'.count q ≤ F.count q := by
            cases ow with
            | true => obtain ⟨F', r1, r2⟩ := row_take k3 m; exact ⟨F', fun _ _ _ => r1, r2⟩
            | false => obtain ⟨F', r1, r2⟩ := row_take k3 m; exact ⟨F', fun φ' sl' he => r1.stay (fun _ _ => rfl) fun _ _ _ _ _ hr => hr.mono he.hk, r2⟩
          obtain ⟨F', r1, r2⟩ := hsr
          have hof : ofSlots Fs [s] = F := by simp [ofSlots, k2]
          refine ⟨_, φ ++ [(A, c)], hrun, turn_push (y := .arr t' ow (es.take m)) (F' := F') hm (ks := [s]) (by simp) (by simpa using ⟨_, hs, trivial⟩) (fun g hg => by subst hg; exact ⟨s, by simp, c, h2⟩) (Only.refl _ _) (fun g hg => .inl hg) r1 (fun q => by rw [hof]; have := r2 q; omega), ?_⟩
          have hl1 : (es.take m).length = m - 0 := by simp; omega
          rw [← hl1, Nat.sub_zero]
          exact .ref (t := t') (ow := ow) (es := es.take m) (by rw [List.getElem?_append_right (by rw [kill_len]; exact Nat.le_refl _), kill_len]; simp) (by rw [List.getElem?_append_right (by rw [hm.flen]; exact Nat.le_refl _), hm.flen]; simp)
        · cases h
          obtain ⟨t1, t2, t3⟩ := freeze_turn hst hm (ks := [s]) (by simp) (by simpa using ⟨_, hs, trivial⟩)
          have hrd : Rd w (good w0.R φ (kill [s] σ.slots) w) (.sl t' es) (.slice (hdr A) es.length c) := presD_rd (x := .ref s) (by simp [presD, hs]) hm (.ref hs h2) t2 fun s' e F hF => by cases e; exact t3 s (by simp) F hF
          obtain ⟨_, q2⟩ := hrd.part c2 c3 (fun x hx => by have := List.all_eq_true.1 c4 x hx; simpa using this)
          exact ⟨_, φ, hrun, t1, .d q2⟩
    · cases h
  · cases h
theorem aop_sound {m : Mode} (hst : w0.st = m.st) (hck : m.tc = true → m.st = true → w0.Apart) {o : Oper} {K : St → Prop} (h : AOp P m o K σ) (hr : Rel P w0 φ σ a w) {KC : Act → World → Prop} {Q : Exit → Act → World → Prop} (hK : ∀ φ' σ' a' w', K σ' → Rel P w0 φ' σ' a' w' → KC a' w') : o.wp P a w KC Q := by
  obtain ⟨Fs, hm⟩ := hr.mem
  have quiet : (∃ x news, AQ P m.st σ.slots.length σ o x news ∧ K (St.put ⟨σ.tmps, σ.slots ++ news⟩ o.dst x)) → o.wp P a w KC Q := by
    rintro ⟨x, news, h1, h2⟩
    refine aq_sound hst h1 hr fun v w' hq => ?_
    obtain ⟨φ', h3, h4⟩ := turn_made hm hq
    exact hK φ' _ _ _ h2 (hr.turn h3 h4 o.dst)
  unfold AOp at h
  split at h
  · rename_i t p y ho
    obtain ⟨sl', h1, h2⟩ := h
    obtain ⟨w', h3, h4⟩ := storeV_sound hst h1 hm (hr.eval p) (hr.evalT t y)
    have hrun : (execOp a.eval o).run P w = .ok .skip w' := by simp [execOp, ho, h3]
    unfold Oper.wp
    rw [hrun]
    exact hK φ _ _ _ h2 (hr.turn h4 (.any _) o.dst)
  · rename_i c ho
    split at h
    · rename_i hc
      split at h
      · rename_i x y t t' hx ht
        obtain ⟨rfl, h⟩ := h
        obtain ⟨r, w', φ', sl', z, h1, h2, h3, h4⟩ := append_sound hst (ty := o.type) hm (hr.evalT _ x) (hr.evalT _ y) h
        have hargs : c.args = #[x, y] := by rw [← Array.toArray_toList (xs := c.args), hx]
        have htys : c.argTypes = #[t', t'] := by rw [← Array.toArray_toList (xs := c.argTypes), ht]
        have hrun : (execOp a.eval o).run P w = .ok (.value r) w' := by
          simp [execOp, ho, resolve, hc, invoke, builtin, hargs, htys, h1]
        exact wp_value hrun (hK φ' _ _ _ h4 (hr.turn h2 h3 o.dst))
      · exact h.elim
    · rename_i g hc
      rcases h with h | h
      · exact quiet h
      · split at h
        · rename_i f caps hf
          have hg := hr.eval g
          rw [hf] at hg
          obtain ⟨us, hus, hul, huv⟩ := hg.fnv
          have hcall : callable P f = true ∧ Calls P f (c.args.toList.map a.eval ++ us).toArray w fun e w' => ∃ v φ' sl' z, e = .returned v ∧ Turn P w0 φ σ.slots w φ' sl' w' ∧ VR w' (good w0.R φ' sl' w') φ' sl' z v ∧ K (St.put ⟨σ.tmps, sl'⟩ o.dst z) := by
            rcases h with h | h
            · exact callT_sound hst hr h (vs := c.args.toList.map a.eval ++ us) (by simp [hul]) (args_vr hr hul huv)
            · exact callS_sound hst hck hr h (vs := c.args.toList.map a.eval ++ us) (by simp [hul]) (args_vr hr hul huv)
          obtain ⟨k1, k2⟩ := hcall
          have hrun := run_call_value (w := w) (a := a) (o := o) (c := c) ho hc hus k1
          unfold Oper.wp
          rw [hrun]
          refine k2.mono ?_
          rintro e w' ⟨v, φ', sl', z, rfl, q1, q2, q3⟩
          exact hK φ' _ _ _ q3 (hr.turn q1 q2 o.dst)
        · exact h.elim
    · exact quiet h
  · rename_i t x lo hi ho
    split at h
    · rename_i s hx
      obtain ⟨_, h0, n, z, sl', h1, h2, h3⟩ := h
      have hv := hr.eval x
      rw [hx] at hv
      obtain ⟨u, φ', q1, q2, q3⟩ := sliceT_sound (hst.trans h0) hr h1 h2 hv
      have hrun : (execOp a.eval o).run P w = .ok (.value u) w := by simp [execOp, ho, q1]
      exact wp_value hrun (hK φ' _ _ _ h3 (hr.turn q2 q3 o.dst))
    · exact quiet h
  · exact quiet h
theorem Rel.same (h : Rel P w0 φ σ a w) {d : Nat} {x : V} (hx : σ.get d = x) (hd : x ≠ .any) : σ.put (some d) x = σ := by
  unfold St.put
  unfold St.get at hx
  cases hd' : σ.tmps[d]? with
  | none => rw [hd'] at hx; exact absurd hx.symm hd
  | some y =>
    rw [hd'] at hx
    simp at hx
    subst hx
    have hl := (List.getElem?_eq_some_iff.1 hd').1
    have : σ.tmps.set d y = σ.tmps := by
      apply List.ext_getElem?
      intro i
      by_cases hi : d = i
      · subst hi; rw [List.getElem?_set_self hl, hd']
      · rw [List.getElem?_set_ne hi]
    simp only [this]
theorem aops_sound {m : Mode} (hst : w0.st = m.st) (hck : m.tc = true → m.st = true → w0.Apart) {ops : Array Oper} {K : St → Prop} {Q : Exit → Act → World → Prop} (hK : ∀ φ' σ' a' w', K σ' → Rel P w0 φ' σ' a' w' → Q .normal a' w') : ∀ (l : List Oper) {φ : Hdrs} {σ : St} {a : Act} {w : World}, AOps P m ops K l σ → Rel P w0 φ σ a w → wpList P ops Q l a w
  | [], φ, σ, a, w, h, hr => hK φ σ a w h hr
  | o :: l, φ, σ, a, w, h, hr => by
    refine wpList_step fun KC hKC => ?_
    unfold AOps at h
    split at h
    · rename_i hg
      rw [if_pos (by simp [Region.wanted, hg])]
      exact aop_sound hst hck h hr fun φ' σ' a' w' h1 h2 => hKC a' w' (aops_sound hst hck hK l h1 h2)
    · rename_i j b hg
      split at h
      · exact h.elim
      rename_i d hd
      split at h
      · rename_i t ht
        have hv := hr.eval (.tmp d)
        have hget : σ.eval (.tmp d) = .d (.bool t) := ht
        rw [hget] at hv
        have hv' := hv.bool
        have hl : d < a.tmps.size := by
          rcases Nat.lt_or_ge d a.tmps.size with h | h
          · exact h
          · have : a.eval (.tmp d) = undef := by show a.tmps.getD d undef = _; simp [Array.getD, Nat.not_lt.2 h]
            rw [this] at hv'; cases hv'
        have hy : yielded ops a.tmps j = some t := by
          unfold yielded
          rw [hd]
          have : a.tmps[d]? = some (.bool t) := by
            rw [Array.getElem?_eq_getElem hl]
            have : a.eval (.tmp d) = a.tmps[d] := by show a.tmps.getD d undef = _; simp [Array.getD, hl]
            rw [← this, hv']
          simp [this]
        have hsame := hr.same ht (by simp)
        by_cases htb : t = b
        · subst htb
          rw [if_pos (by simp [Region.wanted, hg, hy])]
          have h1 := h.1 rfl
          rw [hsame] at h1
          exact aop_sound hst hck h1 hr fun φ' σ' a' w' h1 h2 => hKC a' w' (aops_sound hst hck hK l h1 h2)
        · have htn : t = !b := by cases t <;> cases b <;> simp_all
          rw [if_neg (by simp [Region.wanted, hg, hy, htb])]
          have h1 := h.2 htn
          rw [← htn, hsame] at h1
          have hr2 : Rel P w0 φ (σ.put o.dst (.tup [])) (a.put o.dst undef) w := hr.turn (Turn.refl hr.mem) vr_undef o.dst
          exact hKC _ _ (aops_sound hst hck hK l h1 hr2)
      · rename_i ht
        have hv := hr.eval (.tmp d)
        have hget : σ.eval (.tmp d) = .tup [] := ht
        rw [hget] at hv
        have hv' := hv.undef
        have hy : yielded ops a.tmps j = none := by
          unfold yielded
          rw [hd]
          cases hq : a.tmps[d]? with
          | none => simp [hq]
          | some u =>
            have : a.eval (.tmp d) = u := by show a.tmps.getD d undef = _; rw [Array.getD_eq_getD_getElem?, hq]; rfl
            rw [this] at hv'
            subst hv'
            simp [hq, undef]
        rw [if_neg (by simp [Region.wanted, hg, hy])]
        have hr2 : Rel P w0 φ (σ.put o.dst (.tup [])) (a.put o.dst undef) w := hr.turn (Turn.refl hr.mem) vr_undef o.dst
        exact hKC _ _ (aops_sound hst hck hK l h hr2)
      · exact h.elim
theorem awp_sound {m : Mode} (hst : w0.st = m.st) (hck : m.tc = true → m.st = true → w0.Apart) (hpin : w0.H.length ≤ m.pin) : ∀ (c : Code) {Q : Exit → St → Prop} {QC : Exit → Act → World → Prop} {φ : Hdrs} {σ : St} {a : Act} {w : World}, AWp P m c Q σ → Rel P w0 φ σ a w → (∀ e φ' σ' a' w', Q e σ' → Rel P w0 φ' σ' a' w' → QC e a' w') → c.wp P QC a w
  | .skip, Q, QC, φ, σ, a, w, h, hr, hQ => wp_skip (hQ _ _ _ _ _ h hr)
  | .region id ops draw, Q, QC, φ, σ, a, w, h, hr, hQ => by
    unfold AWp at h
    cases draw with
    | false => exact wp_region_list (aops_sound hst hck (fun φ' σ' a' w' => hQ .normal φ' σ' a' w') _ h hr)
    | true => exact draw_sound (mo := m.still) hst rfl h.1 h.2 hr (fun l' {φ σ a w} h' hr' => aops_sound (m := m.still) hst (fun h => by cases h) (fun φ' σ' a' w' => hQ .normal φ' σ' a' w') l' h' hr')
  | .seq x y, Q, QC, φ, σ, a, w, h, hr, hQ => by
    refine wp_seq (awp_sound hst hck hpin x h hr fun e φ' σ' a' w' hq hr' => ?_)
    cases e with
    | normal => exact awp_sound hst hck hpin y hq hr' hQ
    | _ => exact hQ _ φ' σ' a' w' hq hr'
  | .cond c x y, Q, QC, φ, σ, a, w, h, hr, hQ => by
    unfold AWp at h
    split at h
    · rename_i t ht
      have hv := hr.eval c
      rw [ht] at hv
      exact wp_cond_split hv.bool (fun e => awp_sound hst hck hpin x (h.1 e) hr hQ) (fun e => awp_sound hst hck hpin y (h.2 e) hr hQ)
    · exact h.elim
  | .block id c, Q, QC, φ, σ, a, w, h, hr, hQ => by
    refine wp_block (awp_sound hst hck hpin c h hr fun e φ' σ' a' w' hq hr' => ?_)
    cases e with
    | exit id' =>
      simp only [inBlockA] at hq
      simp only [Exit.inBlock]
      split
      · rename_i hi; rw [if_pos hi] at hq; exact hQ _ φ' σ' a' w' hq hr'
      · rename_i hi; rw [if_neg hi] at hq; exact hQ _ φ' σ' a' w' hq hr'
    | _ => exact hQ _ φ' σ' a' w' hq hr'
  | .loop c, Q, QC, φ, σ, a, w, h, hr, hQ => by
    obtain ⟨ι, I, S, μ, i0, h0, hle, hround⟩ := h
    obtain ⟨φ0, hr0⟩ := hr.le hst hpin hle
    refine wp_loop_ghost (fun n a w => ∃ i φ, I i ∧ μ i = n ∧ Rel P w0 φ (S i) a w) (μ i0) ⟨i0, φ0, h0, rfl, hr0⟩ ?_
    rintro n a w ⟨i, φ, hi, rfl, hr⟩
    refine awp_sound hst hck hpin c (hround i hi) hr fun e φ' σ' a' w' hq hr' => ?_
    cases e with
    | normal =>
      obtain ⟨j, hj, hlt, hle⟩ := hq
      obtain ⟨φ2, hr2⟩ := hr'.le hst hpin hle
      exact ⟨μ j, hlt, j, φ2, hj, rfl, hr2⟩
    | _ => exact hQ _ φ' σ' a' w' hq hr'
  | .exit id, Q, QC, φ, σ, a, w, h, hr, hQ => wp_exit (hQ _ _ _ _ _ h hr)
  | .ret, Q, QC, φ, σ, a, w, h, hr, hQ => wp_ret (hQ _ _ _ _ _ h hr)
  | .rangeFunc .., _, _, _, _, _, _, h, _, _ => h.elim
  | .scope _, _, _, _, _, _, _, h, _, _ => h.elim
  | .label _, _, _, _, _, _, _, h, _, _ => h.elim
  | .goto _, _, _, _, _, _, _, h, _, _ => h.elim
  | .refuse _, _, _, _, _, _, _, h, _, _ => h.elim
end

/-! ### Contracts -/
def ofX (x : X) : V :=
  match x with
  | .d x => .d x
  | .agg ds => .agg (ds.map .d)
  | .tup _ => .any
def gives (sl : List Slot) (v : V) : Option (X × List Nat) :=
  match v with
  | .tup vs => (give1s sl vs).map fun p => (.tup p.1, p.2)
  | v => give1 sl v
def resV (P : Program) (st : Bool) (σ : St) (r : ResultVar) : Option V :=
  match r with
  | .tmp t => some (σ.get t)
  | .cell a t => loadV P st t σ.slots (σ.get a)
def resVs (P : Program) (st : Bool) (σ : St) : List ResultVar → Option (List V)
  | [] => some []
  | r :: rs => match resV P st σ r, resVs P st σ rs with
    | some v, some vs => some (v :: vs)
    | _, _ => none
/-- The function's result. -/
def RetA (P : Program) (st : Bool) (rs : List ResultVar) (r : X) (e : Exit) (σ : St) : Prop :=
  (e = .ret ∨ e = .normal) ∧ match resVs P st σ rs with
    | some [v] => ∃ ks, gives σ.slots v = some (r, ks)
    | some vs => ∃ ks, gives σ.slots (.tup vs) = some (r, ks)
    | none => False
section
variable {P : Program} {w0 : Base} {w w' : World} {φ φ' : Hdrs} {σ σ' : St} {a : Act} {sl sl' : List Slot} {Fs Fs' : List (List Nat)}
theorem gives_sound (hm : MemR P w0 φ sl w Fs) {v : V} {x : X} {ks : List Nat} {u : Value} (h : gives sl v = some (x, ks)) (hv : VR w (good w0.R φ sl w) φ sl v u) : ∃ F, XRes P w x u F ∧ F.Nodup ∧ ∀ q ∈ F, w0.B q ∨ w0.w.heap.size ≤ q := by
  have done : ∀ {ks : List Nat}, ks.Nodup → (∀ k ∈ ks, k < Fs.length) → (ofSlots Fs ks).Nodup ∧ ∀ q ∈ ofSlots Fs ks, w0.B q ∨ w0.w.heap.size ≤ q := by
    intro ks hn hl
    refine ⟨?_, fun q hq => ?_⟩
    · rw [List.nodup_iff_count]
      intro q
      have h1 := cnt_killF q hn hl
      have h2 := List.nodup_iff_count.1 hm.nd q
      simp only [cnt] at h1
      omega
    · have h1 := cnt_killF q hn hl
      have h2 := List.count_pos_iff.2 hq
      exact hm.ge q (List.count_pos_iff.1 (by simp only [cnt] at h1; omega))
  unfold gives at h
  split at h
  · rw [Option.map_eq_some_iff] at h
    obtain ⟨⟨xs, ks'⟩, h1, h2⟩ := h
    cases h2
    cases hv with
    | tup hl hv =>
      rename_i vs us
      obtain ⟨Gs, j1, j2, j3, j4, j5, j6⟩ := give1s_sound hm h1 hl hv
      obtain ⟨d1, d2⟩ := done j5 j6
      exact ⟨_, .tup j1 j2 j3, by rw [j4]; exact d1, by rw [j4]; exact d2⟩
  · obtain ⟨k1, k2, k3⟩ := give1_sound hm h hv
    obtain ⟨d1, d2⟩ := done k2 k3
    exact ⟨_, .one k1, d1, d2⟩
def resM (tmps : Array Value) (r : ResultVar) : Sem Value :=
  match r with
  | .tmp t => pure (tmps.getD t undef)
  | .cell a t => do loadVar t (← asAddr (tmps.getD a undef))
theorem results_eq (fn : Func) (tmps : Array Value) : results fn tmps = (do
    let vs ← fn.results.mapM (resM tmps)
    pure (if h : vs.size = 1 then vs[0] else .tuple vs)) := rfl
theorem resVs_sound {st : Bool} (hst : w0.st = st) (hr : Rel P w0 φ σ a w) : ∀ {rs : List ResultVar} {vs : List V}, resVs P st σ rs = some vs → ∃ us : List Value, (rs.mapM (resM a.tmps)).run P w = .ok us w ∧ us.length = vs.length ∧
    ∀ (i : Nat) (v : V) (u : Value), vs[i]? = some v → us[i]? = some u → σ.vr w0.R φ w v u
  | [], vs, h => by
    simp [resVs] at h
    subst h
    exact ⟨[], by simp, rfl, fun i v u h => by simp at h⟩
  | r :: rs, vs, h => by
    unfold resVs at h
    split at h
    · rename_i v vs' h1 h2
      cases h
      obtain ⟨us, k1, k2, k3⟩ := resVs_sound hst hr h2
      obtain ⟨u, j1, j2⟩ : ∃ u, (resM a.tmps r).run P w = .ok u w ∧ σ.vr w0.R φ w v u := by
        cases r with
        | tmp t =>
          simp [resV] at h1
          subst h1
          exact ⟨_, rfl, hr.eval (.tmp t)⟩
        | cell c t =>
          obtain ⟨Fs, hm⟩ := hr.mem
          have hc := hr.eval (.tmp c)
          obtain ⟨u, q1, q2⟩ := loadV_sound (v := a.eval (.tmp c)) hst h1 hm hc
          refine ⟨u, ?_, q2⟩
          simp only [resM, Sem.run_bind]
          have hcv : ∃ p, a.tmps.getD c undef = .pointer (some p) := by
            have e : a.eval (.tmp c) = a.tmps.getD c undef := rfl
            rw [e] at q1
            cases hv : a.tmps.getD c undef with
            | pointer p => cases p with
              | some p => exact ⟨p, rfl⟩
              | none => rw [hv] at q1; simp [Instr.loadAt, Instr.sureAddr, stuck] at q1
            | _ => rw [hv] at q1; simp [Instr.loadAt, Instr.sureAddr, stuck] at q1
          obtain ⟨p, hp⟩ := hcv
          have e : a.eval (.tmp c) = a.tmps.getD c undef := rfl
          rw [e, hp] at q1
          rw [hp]
          simp [Instr.loadAt, Instr.sureAddr] at q1
          simp [asAddr, q1]
      refine ⟨u :: us, ?_, by simp [k2], fun i v' u' hv hu => ?_⟩
      · simp only [List.mapM_cons, Sem.run_bind]
        rw [j1]
        simp only [Result.andThen_ok, k1, Sem.run_pure]
      · match i with
        | 0 => simp at hv hu; subst hv hu; exact j2
        | i + 1 => exact k3 i v' u' (by simpa using hv) (by simpa using hu)
    · cases h
/-- Several results as one. -/
def joinV (vs : List V) : V :=
  match vs with
  | [v] => v
  | vs => .tup vs
theorem run_results {st : Bool} (hst : w0.st = st) (hr : Rel P w0 φ σ a w) {fn : Func} {vs : List V} (h : resVs P st σ fn.results.toList = some vs) : ∃ u, (results fn a.tmps).run P w = .ok u w ∧ σ.vr w0.R φ w (joinV vs) u := by
  obtain ⟨us, k1, k2, k3⟩ := resVs_sound hst hr h
  have hres : (results fn a.tmps).run P w = .ok (if h : us.toArray.size = 1 then us.toArray[0] else .tuple us.toArray) w := by
    rw [results_eq, Array.mapM_eq_mapM_toList]
    simp only [Sem.run_bind, Sem.run_map, k1, Result.andThen_ok, Sem.run_pure]
  unfold joinV
  split
  · rename_i v
    obtain ⟨u, rfl⟩ : ∃ u, us = [u] := by
      match us, k2 with
      | [u], _ => exact ⟨u, rfl⟩
    exact ⟨u, by rw [hres]; simp, k3 0 v u rfl rfl⟩
  · rename_i hn
    refine ⟨.tuple us.toArray, ?_, .tup k2 k3⟩
    rw [hres]
    have : ¬ us.toArray.size = 1 := by
      intro h1
      have h2 : vs.length = 1 := by simpa [k2] using h1
      obtain ⟨v, hv⟩ : ∃ v, vs = [v] := by
        match vs, h2 with
        | [v], _ => exact ⟨v, rfl⟩
      exact hn v hv
    rw [dif_neg this]
theorem ofX_vr {G G' : Nat → Prop} (hG : ∀ b, G b → G' b) {x : X} {v : Value} (h : XRd w G x v) : VR w G' φ sl (ofX x) v := by
  have hk : ∀ b, G b → G' b ∧ ∀ o, w.cell? ⟨b, o, none⟩ = w.cell? ⟨b, o, none⟩ := fun b hb => ⟨hG b hb, fun _ => rfl⟩
  cases h with
  | d h => exact .d (h.mono hk)
  | agg h =>
    rename_i ds us
    have h2 : Rds w G' ds us [] := h.mono hk
    refine .agg (by simpa using h2.2.1) h2.one fun j x u hx hu => ?_
    rw [List.getElem?_map, Option.map_eq_some_iff] at hx
    obtain ⟨d, hd, rfl⟩ := hx
    obtain ⟨u', hu', hr⟩ := h2.2.2 j d hd
    rw [hu] at hu'
    cases hu'
    exact .d hr
/-- A frame at its begin. -/
theorem rel_begin {w0 : Base} (hm : ∃ Fs, MemR P w0 φ sl w Fs) {n : Nat} {xs : List V} {vs : List Value} (hl : vs.length = xs.length) (hv : ∀ (i : Nat) (x : V) (v : Value), xs[i]? = some x → vs[i]? = some v → VR w (good w0.R φ sl w) φ sl x v) :
    Rel P w0 φ ⟨xs ++ List.replicate (n - xs.length) .any, sl⟩ { tmps := vs.toArray ++ Array.replicate (n - vs.toArray.size) undef, defers := [] } w := by
  refine ⟨hm, rfl, by simp [hl], fun i x v hx hv' => ?_⟩
  by_cases hi : i < xs.length
  · rw [List.getElem?_append_left hi] at hx
    rw [Array.getElem?_append_left (by simp; omega)] at hv'
    exact hv i x v hx (by simpa using hv')
  · rw [List.getElem?_append_right (by omega), List.getElem?_replicate] at hx
    split at hx
    · cases hx; exact .any _
    · cases hx
/-- A contract, out of an abstract walk through the function's body. -/
theorem con_of {f : FuncId} {fn : Func} {c : Code} {xs : List X} {r : X} (hc : callable P f = true) (hf : P.funcs[f]? = some fn) (hb : fn.body = some c) {n : Nat} {rs : List ResultVar} (hn : fn.ntmps = n) (hrs : fn.results.toList = rs) (h : AWp P ⟨0, false, true⟩ c (RetA P false rs r) ⟨xs.map ofX ++ List.replicate (n - xs.length) .any, []⟩) : ConC P f xs r := by
  subst hn hrs
  refine ⟨hc, ?_⟩
  intro w vs hl hv
  have hm : MemR P ⟨w, fun _ => False, fun _ => False, [], fun _ => True, false, fun _ _ _ => trivial⟩ [] [] w [] := by
    refine ⟨Kept.refl _ _, ?_, rfl, rfl, by simp, by simp, by simp, fun s x h F hs => by simp at hs⟩
    rintro b ⟨s, x, c, h, _⟩
    simp at h
  have hr := rel_begin (n := fn.ntmps) ⟨_, hm⟩ (xs := xs.map ofX) (vs := vs) (by simpa using hl) (fun i x v hx hv' => by
    rw [List.getElem?_map, Option.map_eq_some_iff] at hx
    obtain ⟨y, hy, rfl⟩ := hx
    exact ofX_vr (fun b hb => ⟨hb, by rintro ⟨s, x, c, h, _⟩; simp at h, trivial⟩) (hv i y v hy hv'))
  rw [List.length_map] at hr
  refine calls_of_wp hf hb (awp_sound (m := ⟨0, false, true⟩) rfl (fun _ h => by cases h) (Nat.le_refl _) c h hr fun e φ' σ' a' w' hq hr' => ?_)
  obtain ⟨he, hq⟩ := hq
  obtain ⟨Fs, hm⟩ := hr'.mem
  have fin : ∃ v, (results fn a'.tmps).run P w' = .ok v w' ∧ ∃ v' F, Ending.returned v = .returned v' ∧ XRes P w' r v' F ∧ F.Nodup ∧ (∀ g ∈ F, w.heap.size ≤ g) ∧ Below w.heap.size w w' := by
    have hbl : Below w.heap.size w w' := hm.only.below (fun _ h => h)
    split at hq
    · rename_i v hvs
      obtain ⟨ks, hg⟩ := hq
      obtain ⟨u, k1, k2⟩ := run_results rfl hr' hvs
      obtain ⟨F, g1, g2, g3⟩ := gives_sound hm hg k2
      exact ⟨u, k1, u, F, rfl, g1, g2, fun g hg => (g3 g hg).resolve_left (fun h => h), hbl⟩
    · rename_i vs hn hvs
      obtain ⟨ks, hg⟩ := hq
      obtain ⟨u, k1, k2⟩ := run_results rfl hr' hvs
      have hj : joinV vs = .tup vs := by
        unfold joinV
        split
        · exact absurd rfl (hn _)
        · rfl
      rw [hj] at k2
      obtain ⟨F, g1, g2, g3⟩ := gives_sound hm hg k2
      exact ⟨u, k1, u, F, rfl, g1, g2, fun g hg => (g3 g hg).resolve_left (fun h => h), hbl⟩
    · exact hq.elim
  rcases he with rfl | rfl
  · obtain ⟨v, h1, h2⟩ := fin
    exact ⟨hr'.defers, v, h1, h2⟩
  · obtain ⟨v, h1, h2⟩ := fin
    exact ⟨hr'.defers, v, h1, h2⟩
/-- The function's result and the slots behind it; the first n keep their places. -/
def RetT (P : Program) (n : Nat) (rs : List ResultVar) (r : V) (sl' : List Slot) (e : Exit) (σ : St) : Prop :=
  (e = .ret ∨ e = .normal) ∧ ∃ vs, resVs P false σ rs = some vs ∧ ∃ π : List Nat, π.Nodup ∧ isPin n π 0 = true ∧ leSlots false σ.slots π π sl' ∧ leT false σ.slots π (joinV vs) r
/-- The same where nothing of a slot is read as data, and calls may write over what slots own. -/
theorem con_ofS {f : FuncId} {fn : Func} {c : Code} {xs : List X} {r : X} (hc : callable P f = true) (hf : P.funcs[f]? = some fn) (hb : fn.body = some c) {n : Nat} {rs : List ResultVar} (hn : fn.ntmps = n) (hrs : fn.results.toList = rs) (h : AWp P ⟨0, true, true⟩ c (RetA P true rs r) ⟨xs.map ofX ++ List.replicate (n - xs.length) .any, []⟩) : ConC P f xs r := by
  subst hn hrs
  refine ⟨hc, ?_⟩
  intro w vs hl hv
  have hm : MemR P ⟨w, fun _ => False, fun _ => False, [], (· < w.heap.size), true, by simp⟩ [] [] w [] := by
    refine ⟨Kept.refl _ _, ?_, rfl, rfl, by simp, by simp, by simp, fun s x h F hs => by simp at hs⟩
    rintro b ⟨s, x, c, h, _⟩
    simp at h
  have hr := rel_begin (n := fn.ntmps) ⟨_, hm⟩ (xs := xs.map ofX) (vs := vs) (by simpa using hl) (fun i x v hx hv' => by
    rw [List.getElem?_map, Option.map_eq_some_iff] at hx
    obtain ⟨y, hy, rfl⟩ := hx
    exact ofX_vr (fun b hb => ⟨hb, by rintro ⟨s, x, c, h, _⟩; simp at h, hb⟩) (hv i y v hy hv'))
  rw [List.length_map] at hr
  refine calls_of_wp hf hb (awp_sound (m := ⟨0, true, true⟩) rfl (fun _ _ => ⟨fun b hb => ⟨hb, fun h => h⟩, fun b hb => hb⟩) (Nat.le_refl _) c h hr fun e φ' σ' a' w' hq hr' => ?_)
  obtain ⟨he, hq⟩ := hq
  obtain ⟨Fs, hm⟩ := hr'.mem
  have fin : ∃ v, (results fn a'.tmps).run P w' = .ok v w' ∧ ∃ v' F, Ending.returned v = .returned v' ∧ XRes P w' r v' F ∧ F.Nodup ∧ (∀ g ∈ F, w.heap.size ≤ g) ∧ Below w.heap.size w w' := by
    have hbl : Below w.heap.size w w' := hm.only.below (fun _ h => h)
    split at hq
    · rename_i v hvs
      obtain ⟨ks, hg⟩ := hq
      obtain ⟨u, k1, k2⟩ := run_results rfl hr' hvs
      obtain ⟨F, g1, g2, g3⟩ := gives_sound hm hg k2
      exact ⟨u, k1, u, F, rfl, g1, g2, fun g hg => (g3 g hg).resolve_left (fun h => h), hbl⟩
    · rename_i vs hn hvs
      obtain ⟨ks, hg⟩ := hq
      obtain ⟨u, k1, k2⟩ := run_results rfl hr' hvs
      have hj : joinV vs = .tup vs := by
        unfold joinV
        split
        · exact absurd rfl (hn _)
        · rfl
      rw [hj] at k2
      obtain ⟨F, g1, g2, g3⟩ := gives_sound hm hg k2
      exact ⟨u, k1, u, F, rfl, g1, g2, fun g hg => (g3 g hg).resolve_left (fun h => h), hbl⟩
    · exact hq.elim
  rcases he with rfl | rfl
  · obtain ⟨v, h1, h2⟩ := fin
    exact ⟨hr'.defers, v, h1, h2⟩
  · obtain ⟨v, h1, h2⟩ := fin
    exact ⟨hr'.defers, v, h1, h2⟩
theorem conT_of {f : FuncId} {fn : Func} {c : Code} {xs : List V} {sl : List Slot} {r : V} {sl' : List Slot} (hc : callable P f = true) (hf : P.funcs[f]? = some fn) (hb : fn.body = some c) {n : Nat} {rs : List ResultVar} (hn : fn.ntmps = n) (hrs : fn.results.toList = rs) (hlat : laters sl sl') (hlv : lives sl)
    (h : AWp P ⟨sl.length, false, true⟩ c (RetT P sl.length rs r sl') ⟨xs ++ List.replicate (n - xs.length) .any, sl⟩) : ConT P f xs sl r sl' := by
  subst hn hrs
  refine ⟨hc, hlat, ?_⟩
  intro w φ Fs R hR vs hm hl hv
  have hr := rel_begin (n := fn.ntmps) ⟨_, hm⟩ hl hv
  refine calls_of_wp hf hb (awp_sound (m := ⟨sl.length, false, true⟩) rfl (fun _ h => by cases h) (Nat.le_of_eq hm.flen) c h hr fun e φ' σ' a' w' hq hr' => ?_)
  obtain ⟨he, us, hus, π, hn, hpn, hsl, hrr⟩ := hq
  obtain ⟨u, k1, k2⟩ := run_results rfl hr' hus
  have fin : ∃ φ2 Fs2, MemR P ⟨w, top φ sl, (· ∈ Fs.flatten), φ, R, false, hR⟩ φ2 sl' w' Fs2 ∧ VR w' (good R φ2 sl' w') φ2 sl' r u := by
    -- the result among the temporaries
    unfold leT at hrr
    split at hrr
    · rename_i ys
      obtain ⟨xs', hj, hle⟩ := hrr
      rw [hj] at k2
      cases k2 with
      | tup hl2 hv2 =>
        rename_i us'
        obtain ⟨Fs1, hm1⟩ := hr'.mem
        have hr1 : Rel P ⟨w, top φ sl, (· ∈ Fs.flatten), φ, R, false, hR⟩ φ' ⟨xs', σ'.slots⟩ { tmps := us'.toArray, defers := [] } w' :=
          ⟨⟨Fs1, hm1⟩, rfl, by simpa using hl2, fun i x v hx hv' => hv2 i x v hx (by simpa using hv')⟩
        obtain ⟨φ2, hr2⟩ := hr1.le (m := ⟨sl.length, false, true⟩) (σ' := ⟨ys, sl'⟩) rfl (Nat.le_of_eq hm.flen) ⟨π, hn, hpn, hsl, hle⟩
        obtain ⟨Fs2, hm2⟩ := hr2.mem
        refine ⟨φ2, Fs2, hm2, .tup (by have := hr2.tlen; simpa using this) fun i x v hx hv' => hr2.tmps i x v hx (by simpa using hv')⟩
    · obtain ⟨Fs1, hm1⟩ := hr'.mem
      have hr1 : Rel P ⟨w, top φ sl, (· ∈ Fs.flatten), φ, R, false, hR⟩ φ' ⟨[joinV us], σ'.slots⟩ { tmps := #[u], defers := [] } w' := by
        refine ⟨⟨Fs1, hm1⟩, rfl, rfl, fun i x v hx hv' => ?_⟩
        match i with
        | 0 => simp at hx hv'; subst hx hv'; exact k2
        | i + 1 => simp at hx
      obtain ⟨φ2, hr2⟩ := hr1.le (m := ⟨sl.length, false, true⟩) (σ' := ⟨[r], sl'⟩) rfl (Nat.le_of_eq hm.flen) ⟨π, hn, hpn, hsl, hrr, trivial⟩
      obtain ⟨Fs2, hm2⟩ := hr2.mem
      exact ⟨φ2, Fs2, hm2, hr2.tmps 0 r u rfl rfl⟩
  obtain ⟨φ2, Fs2, f1, f2⟩ := fin
  rcases he with rfl | rfl
  · exact ⟨hr'.defers, u, k1, u, φ2, Fs2, rfl, f1, f2⟩
  · exact ⟨hr'.defers, u, k1, u, φ2, Fs2, rfl, f1, f2⟩
/-- The result is a number; the slots are those of before, written over. -/
def RetW (P : Program) (n : Nat) (rs : List ResultVar) (k : Int) (sl' : List Slot) (e : Exit) (σ : St) : Prop :=
  (e = .ret ∨ e = .normal) ∧ resVs P true σ rs = some [.d (.int .i64 k)] ∧ ∃ π : List Nat, π.Nodup ∧ isPin n π 0 = true ∧ leSlots true σ.slots π π sl'
theorem conW_of {f : FuncId} {fn : Func} {c : Code} {xs : List V} {sl : List Slot} {k : Int} {sl' : List Slot} (hc : callable P f = true) (hf : P.funcs[f]? = some fn) (hb : fn.body = some c) {n : Nat} {rs : List ResultVar} (hn : fn.ntmps = n) (hrs : fn.results.toList = rs) (hlk : allLike sl sl')
    (h : AWp P ⟨sl.length, true, true⟩ c (RetW P sl.length rs k sl') ⟨xs ++ List.replicate (n - xs.length) .any, sl⟩) : ConW P f xs sl k sl' := by
  subst hn hrs
  refine ⟨hc, hlk, ?_⟩
  intro w φ Fs R hR vs hm hl hv
  have hr := rel_begin (n := fn.ntmps) ⟨_, hm⟩ hl hv
  refine calls_of_wp hf hb (awp_sound (m := ⟨sl.length, true, true⟩) rfl (fun _ _ => ⟨hR, fun b hb => hb⟩) (Nat.le_of_eq hm.flen) c h hr fun e φ' σ' a' w' hq hr' => ?_)
  obtain ⟨he, hus, π, hn, hpn, hsl⟩ := hq
  obtain ⟨u, k1, k2⟩ := run_results rfl hr' hus
  have hu : u = .int .i64 k := by
    cases k2 with
    | d h => cases h; rfl
  subst hu
  have fin : ∃ Fs2, MemR P ⟨w, (· ∈ Fs.flatten), (· ∈ Fs.flatten), φ, R, true, by simp⟩ φ sl' w' Fs2 := by
    obtain ⟨Fs1, hm1⟩ := hr'.mem
    have hr1 : Rel P ⟨w, (· ∈ Fs.flatten), (· ∈ Fs.flatten), φ, R, true, by simp⟩ φ' ⟨[], σ'.slots⟩ { tmps := #[], defers := [] } w' :=
      ⟨⟨Fs1, hm1⟩, rfl, rfl, fun i x v hx => by simp at hx⟩
    obtain ⟨φ2, hr2⟩ := hr1.le (m := ⟨sl.length, true, true⟩) (σ' := ⟨[], sl'⟩) rfl (Nat.le_of_eq hm.flen) ⟨π, hn, hpn, hsl, trivial⟩
    obtain ⟨Fs2, hm2⟩ := hr2.mem
    have e : φ2 = φ := by
      apply List.ext_getElem?
      intro i
      by_cases hi : i < φ.length
      · have h1 : φ[i]? = some φ[i] := List.getElem?_eq_getElem hi
        rw [h1]
        exact (hm2.pin i _ h1).1
      · have hl2 := hm2.flen
        have hl3 := (allLike_at hlk).1
        have hl4 := hm.flen
        simp only at hl2
        rw [List.getElem?_eq_none (by omega), List.getElem?_eq_none (by omega)]
    subst e
    exact ⟨Fs2, hm2⟩
  rcases he with rfl | rfl
  · exact ⟨hr'.defers, _, k1, rfl, fin⟩
  · exact ⟨hr'.defers, _, k1, rfl, fin⟩
end
end Go.Proofs.Ytdliejnmpdodhaa
