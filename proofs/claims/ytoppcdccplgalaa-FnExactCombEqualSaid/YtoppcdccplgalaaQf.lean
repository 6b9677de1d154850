/-
  The search for a satisfying assignment as data; its walk on both sides.
  Conditions: those typed in each theorem.
-/
import Derived.Test.YtoppcdccplgalaaQe
import Derived.Test.YtoppcdccplgalaaNp
namespace Go.Proofs.Ytoppcdccplgalaa
open Go.RowKit Go.ChangeShapes Go.WideShapes
set_option linter.unusedVariables false
set_option linter.unusedSimpArgs false
attribute [local simp ↓] condG_true condG_false condB_true condB_false
attribute [local simp] AWp_skip AWp_region_t AWp_region_d AWp_region_f still_mk AWp_seq AWp_cond condV_bool condB AWp_block AWp_exit AWp_ret
attribute [local simp] AOps_nil AOp_move AOp_assign AOp_pick AOp_binOp AOp_unOp AOp_convert AOp_len AOp_max AOp_min AOp_indexAddr AOp_load
attribute [local simp] AOp_fieldAddr AOp_field AOp_extract AOp_nilCheck AOp_build AOp_alloc AOp_box AOp_call AOp_store AOp_append AOp_buildSlice nextB_some
attribute [local simp] nextB_none adoptO adoptC AOp_makeSlice AOp_slice AOp_makeFunc AOp_guard guardD_some guardG_bool guardG_undef nextO_some nextS_some
attribute [local simp] nextZ_some nextL_some nextM_some nextT_some sliceO sliceL sliceT partO partV boundV funcO pickO
attribute [local simp] convO lenO maxO minO idxO extO nilO buildO litO litC makeO chunks
attribute [local simp] fillV placeOf thenA inBlockA St.get St.put St.eval ofCell evalT abin_add abin_sub abin_mul
attribute [local simp] abin_quo abin_rem abin_and abin_or abin_xor abin_andNot abin_shl abin_shr abin_shlu abin_eql abin_eqp abin_neq
attribute [local simp] abin_lss abin_leq abin_gtr abin_geq abin_eqlb abin_neqb aun pickV lenV intOf? indexV takeD
attribute [local simp] takeV loadV fieldAddrV fieldV ofX presD presDs pres presAll cellsV V.cell storeV
attribute [local simp] freezeC putAt kill takeC plains plainV scalarV nat_neg keepT sets eSl e1
attribute [local simp] e2 e3 e4 eInt eBool afterCall inst inst1 inst1s instD instDs RetA
attribute [local simp] resVs resV gives give1 give1s Le isPin leSlots leS leTmps leV le0
attribute [local simp] le0s ren ren0 renS ren0s frame enterT afterT_some afterC_some lives Slot.live arrsOk
attribute [local simp] viewV view0 renT rens renSs setAll List.range'_succ RetT RetW joinV leT AOpsE_nil
attribute [local simp] AOpsE_cons AOpsT_nil AOpsT_cons isCallT callOf condC_true condC_false beginT_mk thenT_mk pickE pickT isT
attribute [local simp] loose namesOf namesV names1 names0 stableN sameAt Op.operands Call.operands
structure SRes where
  code : Int
  left : Nat
  pf : List RowD
  model : List Int
def negs (dec : List Int) : List Int := dec.map fun l => -l
def zeroAt : List Int → Nat
  | [] => 0
  | x :: xs => if x = 0 then 0 else zeroAt xs + 1
def srchB (S : Nat → List Int → List Int → List RowD → SRes) (left : Nat) (dec : List Int) (pf : List RowD) (q : List Int) : SRes :=
  if zeroAt q = q.length then ⟨1, left, pf, q⟩ else
  let r1 := S left (q.set (zeroAt q) (-1)) (dec ++ [-((zeroAt q : Int) + 1)]) pf
  if r1.code ≠ 2 then r1 else
  let r2 := S r1.left (q.set (zeroAt q) 1) (dec ++ [(zeroAt q : Int) + 1]) r1.pf
  if r2.code ≠ 2 then r2 else ⟨2, r2.left, r2.pf ++ [negs dec], []⟩
def srch (cls : List RowD) : Nat → Nat → List Int → List Int → List RowD → SRes
  | 0, left, p, dec, pf => ⟨3, left, pf, []⟩
  | k + 1, left, p, dec, pf => if left = 0 then ⟨3, left, pf, []⟩ else
    match propL cls p with
    | none => ⟨2, left - 1, pf ++ [negs dec], []⟩
    | some q => srchB (srch cls k) (left - 1) dec pf q
theorem zeroAt_le : ∀ q : List Int, zeroAt q ≤ q.length
  | [] => Nat.le_refl _
  | x :: xs => by
    have := zeroAt_le xs
    unfold zeroAt
    split
    · exact Nat.zero_le _
    · simp; omega
theorem zeroAt_at {q : List Int} {k : Nat} {x : Int} (hx : q[k]? = some x) : zeroAt (q.drop k) = if x = 0 then 0 else zeroAt (q.drop (k + 1)) + 1 := by
  obtain ⟨hk, rfl⟩ := List.getElem?_eq_some_iff.1 hx
  rw [List.drop_eq_getElem_cons hk, zeroAt]
theorem zeroAt_zero {q : List Int} (h : zeroAt q < q.length) : q[zeroAt q]? = some 0 := by
  induction q with
  | nil => simp at h
  | cons x xs ih =>
    by_cases hx : x = 0
    · simp [zeroAt, hx]
    · simp only [zeroAt, if_neg hx, List.length_cons] at h ⊢
      simpa using ih (by omega)
/-- What a search leaves. -/
theorem srch_facts {cls : List RowD} {v : Nat} (hc : clausesIn v cls) : ∀ (k left : Nat) (p dec : List Int) (pf : List RowD), p.length = v → trits p →
    (srch cls k left p dec pf).left ≤ left ∧ ((srch cls k left p dec pf).code = 1 ∨ (srch cls k left p dec pf).code = 2 ∨ (srch cls k left p dec pf).code = 3) ∧
    ((srch cls k left p dec pf).code = 2 → (srch cls k left p dec pf).pf.length + (srch cls k left p dec pf).left ≤ pf.length + left ∧ 0 < (srch cls k left p dec pf).pf.length ∧ ((∀ c ∈ pf, c.length ≤ 1048576) → dec.length + k ≤ 1048576 → ∀ c ∈ (srch cls k left p dec pf).pf, c.length ≤ 1048576)) ∧
    ((srch cls k left p dec pf).code = 1 → (srch cls k left p dec pf).model.length = v ∧ trits (srch cls k left p dec pf).model)
  | 0, left, p, dec, pf, hp, ht => by simp [srch]
  | k + 1, left, p, dec, pf, hp, ht => by
    have ih := srch_facts hc k
    unfold srch
    by_cases h0 : left = 0
    · simp [h0]
    rw [if_neg h0]
    cases hq : propL cls p with
    | none =>
      simp only
      refine ⟨by omega, by simp, fun _ => ⟨by simp; omega, by simp, fun h1 h2 c hcm => ?_⟩, by simp⟩
      rcases List.mem_append.1 hcm with h | h
      · exact h1 c h
      · rw [List.mem_singleton.1 h]; simp [negs]; omega
    | some q =>
      obtain ⟨f1, f2, f3⟩ := propL_facts (by rw [hp]; exact hc) ht hq
      simp only
      unfold srchB
      by_cases hz : zeroAt q = q.length
      · rw [if_pos hz]
        simp only
        exact ⟨by omega, by simp, by simp, fun _ => ⟨by omega, f2⟩⟩
      rw [if_neg hz]
      have a1 := ih (left - 1) (q.set (zeroAt q) (-1)) (dec ++ [-((zeroAt q : Int) + 1)]) pf (by simp; omega) (trits_set f2 _ (by omega))
      generalize srch cls k (left - 1) (q.set (zeroAt q) (-1)) (dec ++ [-((zeroAt q : Int) + 1)]) pf = r1 at *
      obtain ⟨a, b, c, d⟩ := a1
      by_cases h1 : r1.code ≠ 2
      · rw [if_pos h1]
        exact ⟨by omega, b, fun h => absurd h h1, d⟩
      rw [if_neg h1]
      obtain ⟨c1, c2, c3⟩ := c (by simpa using h1)
      have a2 := ih r1.left (q.set (zeroAt q) 1) (dec ++ [(zeroAt q : Int) + 1]) r1.pf (by simp; omega) (trits_set f2 _ (by omega))
      generalize srch cls k r1.left (q.set (zeroAt q) 1) (dec ++ [(zeroAt q : Int) + 1]) r1.pf = r2 at *
      obtain ⟨a', b', c', d'⟩ := a2
      by_cases h2 : r2.code ≠ 2
      · rw [if_pos h2]
        exact ⟨by omega, b', fun h => absurd h h2, d'⟩
      rw [if_neg h2]
      obtain ⟨e1, e2, e3⟩ := c' (by simpa using h2)
      simp only
      refine ⟨by omega, by simp, fun _ => ⟨?_, by simp, fun g1 g2 c hcm => ?_⟩, by simp⟩
      · simp only [List.length_append, List.length_singleton]
        omega
      · rcases List.mem_append.1 hcm with h | h
        · exact e3 (c3 g1 (by simp; omega)) (by simp; omega) c h
        · rw [List.mem_singleton.1 h]; simp [negs]; omega
theorem iNegs_con (xs : List Int) (h : xs.length ≤ 1048576) (hb : ∀ x ∈ xs, -1048576 ≤ x ∧ x ≤ 1048576) : ConC Try.prog 212 [ints xs] (ints (negs xs)) := by
  refine con_of (by kernel_rfl) Try.func212 rfl rfl rfl ?_
  simp
  refine aw_loopN [false, false, false, true, false, false, true, true, true, false, false, false, false, false, false, false, false, false, false] (fun k : Nat => k ≤ xs.length) (fun k : Nat => [(3, nilR k 0), (8, .d (.int .i64 k))]) (fun k : Nat => nilS k (negs (xs.take k))) (fun k : Nat => xs.length - k) 0 ?_ ?_ ?_
  · simp
  · exact ⟨[], by simp [nilR, nilS]⟩
  rintro I S μ hI hS hμ k hk
  by_cases hlt : k < xs.length
  · have hx1 : xs[k]? = some xs[k] := List.getElem?_eq_getElem hlt
    have w2 : IntKind.i64.wrap ((k : Int) + 1) = (k : Int) + 1 := wrap_id (by omega) (by omega)
    have hd : decide (k < xs.length) = true := decide_eq_true hlt
    have hx := hb _ (List.getElem_mem hlt)
    have hn : negs (xs.take (k + 1)) = negs (xs.take k) ++ [-xs[k]] := by unfold negs; rw [take_snoc' hx1, List.map_append]; rfl
    have hl : (negs (xs.take k)).length = k := by unfold negs; simp; omega
    generalize xs[k] = x at *
    have w3 : IntKind.i64.wrap (-x) = -x := wrap_id (by omega) (by omega)
    generalize negs (xs.take k) = ms at *
    by_cases hk0 : k = 0
    · subst hk0
      have hm : ms = [] := List.eq_nil_of_length_eq_zero hl
      subst hm
      simp [nilR, nilS, hd, hx1, w3]
      refine app_data vt_el_24 rfl (by simp) rfl (by simp) (by simp) (by first | (simp; done) | (simp; omega)) (by simp [flatP, flatD]) ?_
      simp [w2, show IntKind.i64.wrap 1 = 1 from rfl]
      exact round_of hI hS hμ 1 (by omega) (by omega) ⟨[1], by simp [nilR, nilS, hn, e1, eInt]⟩
    · simp [nilR, nilS, hd, hx1, hk0, w3]
      refine app_data vt_el_24 rfl (by simp) rfl (by simp) (by simp) (by first | (simp; done) | (simp; omega)) (by simp [flatP, flatD]) ?_
      simp [w2]
      exact round_of hI hS hμ (k + 1) (by omega) (by omega) ⟨[2], by simp [nilR, nilS, hn, e1, eInt]⟩
  · have hk' : k = xs.length := by omega
    subst hk'
    have hd : decide (xs.length < xs.length) = false := by simp
    rw [List.take_length]
    have hl : (negs xs).length = xs.length := by unfold negs; simp
    generalize negs xs = ms at *
    by_cases hk0 : xs.length = 0
    · have hm : ms = [] := List.eq_nil_of_length_eq_zero (by omega)
      subst hm
      simp [nilR, nilS, hd, hk0, hlt]
    · simp [nilR, nilS, hd, hlt, hk0]
theorem srchB_full {S : Nat → List Int → List Int → List RowD → SRes} {left : Nat} {dec : List Int} {pf : List RowD} {q : List Int} {R : SRes} (h : srchB S left dec pf q = R) (hz : zeroAt q = q.length) : R = ⟨1, left, pf, q⟩ := by
  unfold srchB at h
  rw [if_pos hz] at h
  exact h.symm
theorem srchB_two {S : Nat → List Int → List Int → List RowD → SRes} {left : Nat} {dec : List Int} {pf : List RowD} {q : List Int} {R : SRes} (h : srchB S left dec pf q = R) (hz : ¬ zeroAt q = q.length) :
    ((S left (q.set (zeroAt q) (-1)) (dec ++ [-((zeroAt q : Int) + 1)]) pf).code ≠ 2 → R = S left (q.set (zeroAt q) (-1)) (dec ++ [-((zeroAt q : Int) + 1)]) pf) ∧
    ((S left (q.set (zeroAt q) (-1)) (dec ++ [-((zeroAt q : Int) + 1)]) pf).code = 2 → ∀ r2, S (S left (q.set (zeroAt q) (-1)) (dec ++ [-((zeroAt q : Int) + 1)]) pf).left (q.set (zeroAt q) 1) (dec ++ [(zeroAt q : Int) + 1]) (S left (q.set (zeroAt q) (-1)) (dec ++ [-((zeroAt q : Int) + 1)]) pf).pf = r2 → (r2.code ≠ 2 → R = r2) ∧ (r2.code = 2 → R = ⟨2, r2.left, r2.pf ++ [negs dec], []⟩)) := by
  unfold srchB at h
  rw [if_neg hz] at h
  constructor
  · intro h1
    simp only [if_pos h1] at h
    exact h.symm
  · rintro h1 r2 rfl
    simp only [h1, ne_eq, not_true_eq_false, if_false] at h
    constructor
    · intro h2
      rw [if_pos h2] at h
      exact h.symm
    · intro h2
      rw [if_neg (by simp [h2])] at h
      exact h.symm
def decOk (v : Nat) (par dec own : List Int) : Prop := (dec = [] ∧ own = par) ∨ ∃ d0 l, dec = d0 ++ [l] ∧ litIn v l ∧ own = setLit par l
abbrev visA (v : Nat) (cls : List RowD) (B : Int) (u p f : V) : Slot := .var 169 [.d (.int .i64 v), .d (eSl 24 enRow cls), .d (.int .i64 B), u, p, f]
def visIn (v : Nat) (cls : List RowD) (B : Int) (left : Nat) (pf : List RowD) : List Slot :=
  if pf = [] then [visA v cls B (.d (.int .i64 (B - left))) (.nil 24) .any] else [visA v cls B (.d (.int .i64 (B - left))) (.ref 1) .any, .arr 24 true (pf.map enRow)]
def visOk (v : Nat) (cls : List RowD) (B : Int) (pf : List RowD) (r : SRes) : List Slot :=
  if pf = [] then [visA v cls B (.d (.int .i64 (B - r.left))) (.ref 1) .any, .arr 24 true (r.pf.map enRow)] else [visA v cls B (.d (.int .i64 (B - r.left))) (.ref 2) .any, .dead, .arr 24 true (r.pf.map enRow)]
def visNo (v : Nat) (cls : List RowD) (B : Int) (pf : List RowD) (r : SRes) : List Slot :=
  if pf = [] then [visA v cls B .any .any (if r.code = 1 then .d (eSl 3 (e1 eInt) r.model) else .any)] else [visA v cls B .any .any (if r.code = 1 then .d (eSl 3 (e1 eInt) r.model) else .any), .dead]
def visOut (v : Nat) (cls : List RowD) (B : Int) (pf : List RowD) (r : SRes) : List Slot := if r.code = 2 then visOk v cls B pf r else visNo v cls B pf r
theorem vis_laters {v : Nat} {cls : List RowD} {B : Int} {left : Nat} {pf : List RowD} {r : SRes} : laters (visIn v cls B left pf) (visOut v cls B pf r) := by
  unfold visIn visOut visOk visNo
  by_cases h : pf = [] <;> by_cases h2 : r.code = 2 <;> simp [h, h2, laters, Later]
theorem vis_lives {v : Nat} {cls : List RowD} {B : Int} {left : Nat} {pf : List RowD} : lives (visIn v cls B left pf) := by
  unfold visIn
  by_cases h : pf = [] <;> simp [h, lives, Slot.live]
def visT (v : Nat) (cls : List RowD) (B : Int) (left : Nat) (par dec : List Int) (pf : List RowD) (r : SRes) : Prop :=
  ConT Try.prog 179 [.ptr 0 0, .d (eSl 3 (e1 eInt) dec), .d (eSl 3 (e1 eInt) par)] (visIn v cls B left pf) (.d (.int .i64 r.code)) (visOut v cls B pf r)
/-- The two visits below, as far as they are made. -/
theorem step_two {T : Nat → List Int → List Int → List RowD → SRes → Prop} {S : Nat → List Int → List Int → List RowD → SRes} {v : Nat} {B : Int} {k left : Nat} {dec q : List Int} {pf : List RowD} {R : SRes} (hv : v ≤ 400)
    (ih : ∀ (left : Nat) (par dec own : List Int) (pf : List RowD), left ≤ k → (left : Int) ≤ B → par.length = v → trits par → decOk v par dec own → (∀ x ∈ dec, litIn v x) → dec.length + k ≤ 1048576 → pf.length + left ≤ 600 → (∀ c ∈ pf, c.length ≤ 1048576) → T left par dec pf (S left own dec pf))
    (hF : ∀ (left : Nat) (p dec : List Int) (pf : List RowD), p.length = v → trits p → (S left p dec pf).left ≤ left ∧ ((S left p dec pf).code = 1 ∨ (S left p dec pf).code = 2 ∨ (S left p dec pf).code = 3) ∧
      ((S left p dec pf).code = 2 → (S left p dec pf).pf.length + (S left p dec pf).left ≤ pf.length + left ∧ 0 < (S left p dec pf).pf.length ∧ ((∀ c ∈ pf, c.length ≤ 1048576) → dec.length + k ≤ 1048576 → ∀ c ∈ (S left p dec pf).pf, c.length ≤ 1048576)) ∧
      ((S left p dec pf).code = 1 → (S left p dec pf).model.length = v ∧ trits (S left p dec pf).model))
    (hR : srchB S left dec pf q = R) (hz : ¬ zeroAt q = q.length) (hql : q.length = v) (hqt : trits q) (h1 : left ≤ k) (h2 : (left : Int) ≤ B) (hdl : ∀ x ∈ dec, litIn v x) (hdk : dec.length + (k + 1) ≤ 1048576) (hpl : pf.length + left ≤ 600) (hpc : ∀ c ∈ pf, c.length ≤ 1048576) :
    ∃ r1 r2 : SRes, T left q (dec ++ [-((zeroAt q : Int) + 1)]) pf r1 ∧ (r1.code = 2 → T r1.left q (dec ++ [(zeroAt q : Int) + 1]) r1.pf r2) ∧ (r1.code ≠ 2 → R = r1) ∧ (r1.code = 2 → r2.code ≠ 2 → R = r2) ∧ (r1.code = 2 → r2.code = 2 → R = ⟨2, r2.left, r2.pf ++ [negs dec], []⟩) ∧
      (r1.code = 2 → ¬ r1.pf = []) ∧ (r1.code = 2 → r2.code = 2 → ¬ r2.pf = [] ∧ r2.pf.length ≤ 600) := by
  have hz2 := zeroAt_le q
  obtain ⟨a, b⟩ := srchB_two hR hz
  have hF1 := hF left (q.set (zeroAt q) (-1)) (dec ++ [-((zeroAt q : Int) + 1)]) pf (by simp; omega) (trits_set hqt _ (by omega))
  have hC1 := ih left q (dec ++ [-((zeroAt q : Int) + 1)]) (q.set (zeroAt q) (-1)) pf h1 h2 hql hqt (.inr ⟨dec, _, rfl, ⟨by omega, by omega, by omega⟩, (setLit_neg q _).symm⟩) (fun x hx => by
    rcases List.mem_append.1 hx with h | h
    · exact hdl x h
    · rw [List.mem_singleton.1 h]; exact ⟨by omega, by omega, by omega⟩) (by simp; omega) hpl hpc
  generalize S left (q.set (zeroAt q) (-1)) (dec ++ [-((zeroAt q : Int) + 1)]) pf = r1 at *
  obtain ⟨f1, f2, f3, f4⟩ := hF1
  have hF2 := hF r1.left (q.set (zeroAt q) 1) (dec ++ [(zeroAt q : Int) + 1]) r1.pf (by simp; omega) (trits_set hqt _ (by omega))
  have hC2 : r1.code = 2 → _ := fun hc => ih r1.left q (dec ++ [(zeroAt q : Int) + 1]) (q.set (zeroAt q) 1) r1.pf (by omega) (by omega) hql hqt (.inr ⟨dec, _, rfl, ⟨by omega, by omega, by omega⟩, (setLit_pos q _).symm⟩) (fun x hx => by
    rcases List.mem_append.1 hx with h | h
    · exact hdl x h
    · rw [List.mem_singleton.1 h]; exact ⟨by omega, by omega, by omega⟩) (by simp; omega) (by have := (f3 hc).1; omega) ((f3 hc).2.2 hpc (by simp; omega))
  have b2 := fun h => b h _ rfl
  clear b
  generalize S r1.left (q.set (zeroAt q) 1) (dec ++ [(zeroAt q : Int) + 1]) r1.pf = r2 at *
  obtain ⟨g1, g2, g3, g4⟩ := hF2
  refine ⟨r1, r2, hC1, hC2, a, fun h => (b2 h).1, fun h => (b2 h).2, fun h h' => ?_, fun h h' => ⟨fun e => ?_, ?_⟩⟩
  · have := (f3 h).2.1; rw [h'] at this; simp at this
  · have := (g3 h').2.1; rw [e] at this; simp at this
  · have := (g3 h').1; have := (f3 h).1; omega
set_option maxRecDepth 100000 in
set_option maxHeartbeats 8000000 in
theorem iVisit_conT (v : Nat) (cls : List RowD) (B : Int) (hv : v ≤ 400) (hB : B ≤ 600) (hc : fitRw 1048576 cls) (hcl : clausesIn v cls) : ∀ (k left : Nat) (par dec own : List Int) (pf : List RowD), left ≤ k → (left : Int) ≤ B → par.length = v → trits par → decOk v par dec own → (∀ x ∈ dec, litIn v x) → dec.length + k ≤ 1048576 → pf.length + left ≤ 600 → (∀ c ∈ pf, c.length ≤ 1048576) →
    visT v cls B left par dec pf (srch cls k left own dec pf) := by
  intro k
  induction k with
  | zero =>
    intro left par dec own pf h1 h2 hp ht hd hdl hdk hpl hpc
    obtain rfl : left = 0 := by omega
    refine conT_ofD (by kernel_rfl) Try.func179 rfl rfl rfl vis_laters vis_lives ?_
    by_cases hpf : pf = []
    · simp [visIn, visOut, visNo, srch, hpf]
      refine drawD_of 9 (by kernel_rfl) ?_
      simp
      exact ⟨[0], by simp⟩
    · simp [visIn, visOut, visNo, srch, hpf]
      refine drawD_of 9 (by kernel_rfl) ?_
      simp
      exact ⟨[0, 1], by simp⟩
  | succ k ih =>
    intro left par dec own pf h1 h2 hp ht hd hdl hdk hpl hpc
    have hR : srch cls (k + 1) left own dec pf = srch cls (k + 1) left own dec pf := rfl
    conv at hR => lhs; unfold srch
    have hF := srch_facts hcl k
    generalize srch cls (k + 1) left own dec pf = R at *
    generalize srch cls k = S at *
    have hdb : ∀ x ∈ dec, -1048576 ≤ x ∧ x ≤ 1048576 := fun x hx => by have := hdl x hx; unfold litIn at this; omega
    refine conT_ofD (by kernel_rfl) Try.func179 rfl rfl rfl vis_laters vis_lives ?_
    by_cases hpf : pf = []
--@@begin step
    · simp [visIn, hpf]
      refine drawD_of 9 (by kernel_rfl) ?_
      simp
      by_cases h0 : left = 0
      · rw [if_pos h0] at hR
        subst hR h0
        simp [visOut, visNo, hpf]
        exact ⟨[0], by simp⟩
      rw [if_neg h0] at hR
      have wv : IntKind.i64.wrap (B - (left : Int) + 1) = B - ((left - 1 : Nat) : Int) := by rw [wrap_id (by omega) (by omega)]; omega
      simp [show ¬ B ≤ B - (left : Int) by omega, show B - (left : Int) < B by omega, show (0 : Int) < left by omega, h0, wv]
      refine call_step (copyIs_con par (by omega)) ?_
      simp
      rcases hd with ⟨hd0, rfl⟩ | ⟨d0, l, hdec, hl, rfl⟩
      · have hdz : dec.length = 0 := by rw [hd0]; rfl
        clear hd0
        have hol := hp
        have hot := ht
        simp [hdz]
        intro _
        have hP := iProp_con cls own _ rfl hc (by omega) hot (by rw [hol]; exact hcl)
        have hPf := fun q => propL_facts (cls := cls) (p := own) (p' := q) (by rw [hol]; exact hcl) hot
        generalize propL cls own = Rq at *
        refine call_step (hP) ?_
        simp
        cases Rq with
        | none =>
          simp only at hR
          subst hR
          simp
          refine drawE_of [(8, [0]), (9, []), (10, []), (11, [])] (by kernel_rfl) ?_
          simp
          refine call_step (iNegs_con dec (by omega) hdb) ?_
          simp
          first | refine app_lit (q := 1) vt_el_40 (by exact rfl) (by simp) (by exact rfl) (by exact rfl) (by simp) (by simp) (by first | (simp; done) | (simp; omega)) ?_ | refine app_row vt_el_40 (by exact rfl) (by simp) (by exact rfl) (by simp) (by first | (simp; done) | (simp; omega)) ?_
          simp
          exact ⟨[0, 5], by simp [visOut, visOk, hpf, enRow, e1]⟩
        | some q =>
          obtain ⟨hql, hqt, -⟩ := hPf q rfl
          rw [hol] at hql
          have hzl := zeroAt_le q
          have hz0 := zeroAt_zero (q := q)
          replace hR : srchB S (left - 1) dec pf q = R := hR
          simp
          refine aw_loopU [true, true, false, false, false, false, false, false, false, true, false, true, false, false, false, false, false, false, false, false, false, false, false, false, false, false, false, false, false, false, false, false, false, false, false, false, false, false, false, false, false, false, false, false, false, false, false, false, false, false, false, false, false, false, false, false, false, false, false, false, false, false, false, false, false, false, false, false, false, false, false, false, false, false, false, false, false, false, false, false, false, false, false, false, false, false, false, false, false, false, false, false, false, false, false, false, false, false, false, false, false, false, false, false, false, false, false, false, false, false, false, false, false, false, false, false, false, false, false] (fun i : Nat => i ≤ q.length ∧ zeroAt (q.drop i) + i = zeroAt q) (fun i : Nat => [(11, .d (.int .i64 i))]) (fun i : Nat => []) (fun i : Nat => q.length - i) 0 ?_ ?_ ?_
          · exact ⟨by omega, by simp⟩
          · exact ⟨[0, 1, 2], by simp⟩
          rintro I Z μ hI hS hμ i ⟨hi, hzi⟩
          by_cases hend : i = zeroAt q
          case neg =>
            have hlt : i < q.length := by
              rcases Nat.lt_or_ge i q.length with h | h
              · exact h
              · rw [List.drop_eq_nil_of_le h, zeroAt] at hzi; omega
            have hx1 : q[i]? = some q[i] := List.getElem?_eq_getElem hlt
            rw [zeroAt_at hx1] at hzi
            generalize q[i] = y at *
            by_cases hy : y = 0
            · rw [if_pos hy] at hzi; omega
            rw [if_neg hy] at hzi
            have w5 : IntKind.i64.wrap ((i : Int) + 1) = (i : Int) + 1 := wrap_id (by omega) (by omega)
            simp [decide_eq_true hlt, hx1, hy, show (y != 0) = true by simpa using hy, w5]
            exact round_of hI hS hμ (i + 1) ⟨by omega, by omega⟩ (by omega) ⟨[0, 1, 2], by simp⟩
          subst hend
          clear hzi
          by_cases hfull : zeroAt q = q.length
          · have hRf := srchB_full hR hfull
            clear hR
            subst hRf
            have hlt : ¬ zeroAt q < q.length := by omega
            simp [hlt, decide_eq_false hlt, hfull]
            exact ⟨[0], by simp [visOut, visNo, hpf]⟩
          obtain ⟨r1, r2, hC1, hC2, hR1, hR2, hR3, hp1, hp2⟩ := step_two hv ih hF hR hfull hql hqt (by omega) (by omega) hdl hdk (by omega) hpc
          clear hR ih hF
          have hlt : zeroAt q < q.length := by omega
          have hx0 := hz0 hlt
          clear hz0
          generalize zeroAt q = z at *
          have wz : IntKind.i64.wrap ((z : Int) + 1) = (z : Int) + 1 := wrap_id (by omega) (by omega)
          have wn : IntKind.i64.wrap (-((z : Int) + 1)) = -((z : Int) + 1) := wrap_id (by omega) (by omega)
          have hzn : ¬ z = q.length := hfull
          have hzf : ((z : Int) == (q.length : Int)) = false := beq_false_of_ne (fun h => hzn (Int.ofNat.inj h))
          have hzg : (z == q.length) = false := beq_false_of_ne hzn
          simp [decide_eq_true hlt, hx0, wz, wn, hzn, hzf, hzg]
          refine aw_loopN [true, true, false, false, false, false, false, false, false, true, false, false, false, false, false, false, false, false, false, false, false, false, false, false, false, false, false, false, false, false, false, false, false, false, false, false, false, false, false, false, false, false, false, false, false, false, false, false, false, false, false, false, false, false, false, false, false, false, false, false, false, false, false, false, false, false, false, false, false, false, false, false, false, false, false, false, false, false, false, false, false, false, false, false, false, false, false, false, false, false, true, true, true, false, false, false, false, false, false, false, false, false, false, false, false, false, false, false, false, false, false, false, false, false, false, false, false, false, false] (fun i : Nat => i = 0 ∨ (i = 1 ∧ r1.code = 2) ∨ (i = 2 ∧ r1.code = 2 ∧ r2.code = 2)) (fun i : Nat => [(9, .d (.sl 3 (q.map (e1 eInt)))), (90, .ref 1), (91, .d (.int .i64 2)), (92, .d (.int .i64 i))]) (fun i : Nat => fun _ => if i = 0 then [visA v cls B (.d (.int .i64 (B - (left - 1 : Nat)))) (.nil 24) .any, .arr 3 true [[.int .i64 (-((z : Int) + 1))], [.int .i64 ((z : Int) + 1)]]] else if i = 1 then [visA v cls B (.d (.int .i64 (B - (r1.left : Nat)))) (.ref 2) .any, .arr 3 true [[.int .i64 (-((z : Int) + 1))], [.int .i64 ((z : Int) + 1)]], .arr 24 true (r1.pf.map enRow)] else [visA v cls B (.d (.int .i64 (B - (r2.left : Nat)))) (.ref 2) .any, .arr 3 true [[.int .i64 (-((z : Int) + 1))], [.int .i64 ((z : Int) + 1)]], .arr 24 true (r2.pf.map enRow)]) (fun i : Nat => 2 - i) 0 ?_ ?_ ?_
          · simp
          · exact ⟨[0, 3], by simp⟩
          rintro I2 Z2 μ2 hI2 hS2 hμ2 i (rfl | ⟨rfl, hc1⟩ | ⟨rfl, hc1, hc2⟩)
          · simp
            refine call_step (copyIs_con dec (by omega)) ?_
            simp
            refine app_data vt_el_24 rfl (by simp) rfl (by simp) (by simp) (by first | (simp; done) | (simp; omega)) (by simp [flatP, flatD]) ?_
            simp
            have hcc := hC1
            by_cases hk2 : r1.code = 2
            · simp only [visT, visIn, visOut, visOk, hpf, hk2, if_true, if_false] at hcc
              refine callT_step (hcc) [4] [0] (by simp) ?_
              simp [hk2, show IntKind.i64.wrap 1 = 1 from rfl, show IntKind.i64.wrap 2 = 2 from rfl]
              exact round_of hI2 hS2 hμ2 1 (.inr (.inl ⟨rfl, hk2⟩)) (by simp) ⟨[0, 1, 5], by simp⟩
            · have hRe := hR1 hk2
              subst hRe
              have hk3 : (R.code != 2) = true := by simpa using hk2
              by_cases hk1 : R.code = 1
              · simp only [visT, visIn, visOut, visNo, hpf, hk2, hk1, if_true, if_false] at hcc
                simp only [show ((1 : Int) = 2) = False by simp, if_false] at hcc
                refine callT_step (hcc) [4] [0] (by simp) ?_
                simp [hk2, hk3, hk1]
                exact ⟨[0], by simp [visOut, visNo, hpf, hk2, hk1]⟩
              · simp only [visT, visIn, visOut, visNo, hpf, hk2, hk1, if_true, if_false] at hcc
                refine callT_step (hcc) [4] [0] (by simp) ?_
                simp [hk2, hk3, hk1]
                exact ⟨[0], by simp [visOut, visNo, hpf, hk2, hk1]⟩
          · have hpn := hp1 hc1
            simp
            refine call_step (copyIs_con dec (by omega)) ?_
            simp
            refine app_data vt_el_24 rfl (by simp) rfl (by simp) (by simp) (by first | (simp; done) | (simp; omega)) (by simp [flatP, flatD]) ?_
            simp
            have hcc := hC2 hc1
            by_cases hk2 : r2.code = 2
            · simp only [visT, visIn, visOut, visOk, hpn, hk2, if_true, if_false] at hcc
              refine callT_step (hcc) [5] [0, 2] (by simp) ?_
              simp [hk2, show IntKind.i64.wrap 1 = 1 from rfl, show IntKind.i64.wrap 2 = 2 from rfl]
              exact round_of hI2 hS2 hμ2 2 (.inr (.inr ⟨rfl, hc1, hk2⟩)) (by simp) ⟨[0, 1, 6], by simp⟩
            · have hRe := hR2 hc1 hk2
              subst hRe
              have hk3 : (R.code != 2) = true := by simpa using hk2
              by_cases hk1 : R.code = 1
              · simp only [visT, visIn, visOut, visNo, hpn, hk2, hk1, if_true, if_false] at hcc
                simp only [show ((1 : Int) = 2) = False by simp, if_false] at hcc
                refine callT_step (hcc) [5] [0, 2] (by simp) ?_
                simp [hk2, hk3, hk1]
                exact ⟨[0], by simp [visOut, visNo, hpf, hk2, hk1]⟩
              · simp only [visT, visIn, visOut, visNo, hpn, hk2, hk1, if_true, if_false] at hcc
                refine callT_step (hcc) [5] [0, 2] (by simp) ?_
                simp [hk2, hk3, hk1]
                exact ⟨[0], by simp [visOut, visNo, hpf, hk2, hk1]⟩
          · obtain ⟨hp3, hp4⟩ := hp2 hc1 hc2
            have hRe := hR3 hc1 hc2
            subst hRe
            simp
            refine drawE_of [(8, [0]), (9, []), (10, []), (11, [])] (by kernel_rfl) ?_
            simp
            refine call_step (iNegs_con dec (by omega) hdb) ?_
            simp
            first | refine app_lit (q := 1) vt_el_40 (by exact rfl) (by simp) (by exact rfl) (by exact rfl) (by simp) (by simp) (by first | (simp; done) | (simp; omega)) ?_ | refine app_row vt_el_40 (by exact rfl) (by simp) (by exact rfl) (by simp) (by first | (simp; done) | (simp; omega)) ?_
            simp
            exact ⟨[0, 5], by simp [visOut, visOk, hpf, enRow, e1]⟩
      have hd1 : dec[dec.length - 1]? = some l := by rw [hdec]; simp
      have hd2 : 0 < dec.length := by rw [hdec]; simp
      have hd3 : ¬ dec = [] := by rw [hdec]; simp
      clear hdec
      have wd : IntKind.i64.wrap ((dec.length : Int) - 1) = ((dec.length - 1 : Nat) : Int) := by rw [wrap_id (by omega) (by omega)]; omega
      have hol := setLit_len par l
      have hot := trits_setLit ht l
      rcases lit_cases (n := v) hl with ⟨m, hm, e⟩ | ⟨m, hm, e⟩
      · have hse : setLit par l = par.set m 1 := by rw [e]; exact setLit_pos par m
        rw [hse] at hR hol hot
        rw [hp] at hol
        have hg := getD_some (p := par) (m := m) (by omega)
        have w3 : IntKind.i64.wrap (l - 1) = (m : Int) := by rw [wrap_id (by omega) (by omega)]; omega
        have hset := map_setI (q := par) (m := m) (v := 1)
        generalize par.set m 1 = own at *
        generalize par.getD m 0 = z0 at hg
        simp [hd1, hd2, hd3, wd, show 0 < l by omega, show ¬ l ≤ 0 by omega,  w3, hg, hset]
        have hP := iProp_con cls own _ rfl hc (by omega) hot (by rw [hol]; exact hcl)
        have hPf := fun q => propL_facts (cls := cls) (p := own) (p' := q) (by rw [hol]; exact hcl) hot
        generalize propL cls own = Rq at *
        refine call_step (hP) ?_
        simp
        cases Rq with
        | none =>
          simp only at hR
          subst hR
          simp
          refine drawE_of [(8, [0]), (9, []), (10, []), (11, [])] (by kernel_rfl) ?_
          simp
          refine call_step (iNegs_con dec (by omega) hdb) ?_
          simp
          first | refine app_lit (q := 1) vt_el_40 (by exact rfl) (by simp) (by exact rfl) (by exact rfl) (by simp) (by simp) (by first | (simp; done) | (simp; omega)) ?_ | refine app_row vt_el_40 (by exact rfl) (by simp) (by exact rfl) (by simp) (by first | (simp; done) | (simp; omega)) ?_
          simp
          exact ⟨[0, 5], by simp [visOut, visOk, hpf, enRow, e1]⟩
        | some q =>
          obtain ⟨hql, hqt, -⟩ := hPf q rfl
          rw [hol] at hql
          have hzl := zeroAt_le q
          have hz0 := zeroAt_zero (q := q)
          replace hR : srchB S (left - 1) dec pf q = R := hR
          simp
          refine aw_loopU [true, true, false, false, false, false, false, false, false, true, false, true, false, false, false, false, false, false, false, false, false, false, false, false, false, false, false, false, false, false, false, false, false, false, false, false, false, false, false, false, false, false, false, false, false, false, false, false, false, false, false, false, false, false, false, false, false, false, false, false, false, false, false, false, false, false, false, false, false, false, false, false, false, false, false, false, false, false, false, false, false, false, false, false, false, false, false, false, false, false, false, false, false, false, false, false, false, false, false, false, false, false, false, false, false, false, false, false, false, false, false, false, false, false, false, false, false, false, false] (fun i : Nat => i ≤ q.length ∧ zeroAt (q.drop i) + i = zeroAt q) (fun i : Nat => [(11, .d (.int .i64 i))]) (fun i : Nat => []) (fun i : Nat => q.length - i) 0 ?_ ?_ ?_
          · exact ⟨by omega, by simp⟩
          · exact ⟨[0, 1, 2], by simp⟩
          rintro I Z μ hI hS hμ i ⟨hi, hzi⟩
          by_cases hend : i = zeroAt q
          case neg =>
            have hlt : i < q.length := by
              rcases Nat.lt_or_ge i q.length with h | h
              · exact h
              · rw [List.drop_eq_nil_of_le h, zeroAt] at hzi; omega
            have hx1 : q[i]? = some q[i] := List.getElem?_eq_getElem hlt
            rw [zeroAt_at hx1] at hzi
            generalize q[i] = y at *
            by_cases hy : y = 0
            · rw [if_pos hy] at hzi; omega
            rw [if_neg hy] at hzi
            have w5 : IntKind.i64.wrap ((i : Int) + 1) = (i : Int) + 1 := wrap_id (by omega) (by omega)
            simp [decide_eq_true hlt, hx1, hy, show (y != 0) = true by simpa using hy, w5]
            exact round_of hI hS hμ (i + 1) ⟨by omega, by omega⟩ (by omega) ⟨[0, 1, 2], by simp⟩
          subst hend
          clear hzi
          by_cases hfull : zeroAt q = q.length
          · have hRf := srchB_full hR hfull
            clear hR
            subst hRf
            have hlt : ¬ zeroAt q < q.length := by omega
            simp [hlt, decide_eq_false hlt, hfull]
            exact ⟨[0], by simp [visOut, visNo, hpf]⟩
          obtain ⟨r1, r2, hC1, hC2, hR1, hR2, hR3, hp1, hp2⟩ := step_two hv ih hF hR hfull hql hqt (by omega) (by omega) hdl hdk (by omega) hpc
          clear hR ih hF
          have hlt : zeroAt q < q.length := by omega
          have hx0 := hz0 hlt
          clear hz0
          generalize zeroAt q = z at *
          have wz : IntKind.i64.wrap ((z : Int) + 1) = (z : Int) + 1 := wrap_id (by omega) (by omega)
          have wn : IntKind.i64.wrap (-((z : Int) + 1)) = -((z : Int) + 1) := wrap_id (by omega) (by omega)
          have hzn : ¬ z = q.length := hfull
          have hzf : ((z : Int) == (q.length : Int)) = false := beq_false_of_ne (fun h => hzn (Int.ofNat.inj h))
          have hzg : (z == q.length) = false := beq_false_of_ne hzn
          simp [decide_eq_true hlt, hx0, wz, wn, hzn, hzf, hzg]
          refine aw_loopN [true, true, false, false, false, false, false, false, false, true, false, false, false, false, false, false, false, false, false, false, false, false, false, false, false, false, false, false, false, false, false, false, false, false, false, false, false, false, false, false, false, false, false, false, false, false, false, false, false, false, false, false, false, false, false, false, false, false, false, false, false, false, false, false, false, false, false, false, false, false, false, false, false, false, false, false, false, false, false, false, false, false, false, false, false, false, false, false, false, false, true, true, true, false, false, false, false, false, false, false, false, false, false, false, false, false, false, false, false, false, false, false, false, false, false, false, false, false, false] (fun i : Nat => i = 0 ∨ (i = 1 ∧ r1.code = 2) ∨ (i = 2 ∧ r1.code = 2 ∧ r2.code = 2)) (fun i : Nat => [(9, .d (.sl 3 (q.map (e1 eInt)))), (90, .ref 1), (91, .d (.int .i64 2)), (92, .d (.int .i64 i))]) (fun i : Nat => fun _ => if i = 0 then [visA v cls B (.d (.int .i64 (B - (left - 1 : Nat)))) (.nil 24) .any, .arr 3 true [[.int .i64 (-((z : Int) + 1))], [.int .i64 ((z : Int) + 1)]]] else if i = 1 then [visA v cls B (.d (.int .i64 (B - (r1.left : Nat)))) (.ref 2) .any, .arr 3 true [[.int .i64 (-((z : Int) + 1))], [.int .i64 ((z : Int) + 1)]], .arr 24 true (r1.pf.map enRow)] else [visA v cls B (.d (.int .i64 (B - (r2.left : Nat)))) (.ref 2) .any, .arr 3 true [[.int .i64 (-((z : Int) + 1))], [.int .i64 ((z : Int) + 1)]], .arr 24 true (r2.pf.map enRow)]) (fun i : Nat => 2 - i) 0 ?_ ?_ ?_
          · simp
          · exact ⟨[0, 3], by simp⟩
          rintro I2 Z2 μ2 hI2 hS2 hμ2 i (rfl | ⟨rfl, hc1⟩ | ⟨rfl, hc1, hc2⟩)
          · simp
            refine call_step (copyIs_con dec (by omega)) ?_
            simp
            refine app_data vt_el_24 rfl (by simp) rfl (by simp) (by simp) (by first | (simp; done) | (simp; omega)) (by simp [flatP, flatD]) ?_
            simp
            have hcc := hC1
            by_cases hk2 : r1.code = 2
            · simp only [visT, visIn, visOut, visOk, hpf, hk2, if_true, if_false] at hcc
              refine callT_step (hcc) [4] [0] (by simp) ?_
              simp [hk2, show IntKind.i64.wrap 1 = 1 from rfl, show IntKind.i64.wrap 2 = 2 from rfl]
              exact round_of hI2 hS2 hμ2 1 (.inr (.inl ⟨rfl, hk2⟩)) (by simp) ⟨[0, 1, 5], by simp⟩
            · have hRe := hR1 hk2
              subst hRe
              have hk3 : (R.code != 2) = true := by simpa using hk2
              by_cases hk1 : R.code = 1
              · simp only [visT, visIn, visOut, visNo, hpf, hk2, hk1, if_true, if_false] at hcc
                simp only [show ((1 : Int) = 2) = False by simp, if_false] at hcc
                refine callT_step (hcc) [4] [0] (by simp) ?_
                simp [hk2, hk3, hk1]
                exact ⟨[0], by simp [visOut, visNo, hpf, hk2, hk1]⟩
              · simp only [visT, visIn, visOut, visNo, hpf, hk2, hk1, if_true, if_false] at hcc
                refine callT_step (hcc) [4] [0] (by simp) ?_
                simp [hk2, hk3, hk1]
                exact ⟨[0], by simp [visOut, visNo, hpf, hk2, hk1]⟩
          · have hpn := hp1 hc1
            simp
            refine call_step (copyIs_con dec (by omega)) ?_
            simp
            refine app_data vt_el_24 rfl (by simp) rfl (by simp) (by simp) (by first | (simp; done) | (simp; omega)) (by simp [flatP, flatD]) ?_
            simp
            have hcc := hC2 hc1
            by_cases hk2 : r2.code = 2
            · simp only [visT, visIn, visOut, visOk, hpn, hk2, if_true, if_false] at hcc
              refine callT_step (hcc) [5] [0, 2] (by simp) ?_
              simp [hk2, show IntKind.i64.wrap 1 = 1 from rfl, show IntKind.i64.wrap 2 = 2 from rfl]
              exact round_of hI2 hS2 hμ2 2 (.inr (.inr ⟨rfl, hc1, hk2⟩)) (by simp) ⟨[0, 1, 6], by simp⟩
            · have hRe := hR2 hc1 hk2
              subst hRe
              have hk3 : (R.code != 2) = true := by simpa using hk2
              by_cases hk1 : R.code = 1
              · simp only [visT, visIn, visOut, visNo, hpn, hk2, hk1, if_true, if_false] at hcc
                simp only [show ((1 : Int) = 2) = False by simp, if_false] at hcc
                refine callT_step (hcc) [5] [0, 2] (by simp) ?_
                simp [hk2, hk3, hk1]
                exact ⟨[0], by simp [visOut, visNo, hpf, hk2, hk1]⟩
              · simp only [visT, visIn, visOut, visNo, hpn, hk2, hk1, if_true, if_false] at hcc
                refine callT_step (hcc) [5] [0, 2] (by simp) ?_
                simp [hk2, hk3, hk1]
                exact ⟨[0], by simp [visOut, visNo, hpf, hk2, hk1]⟩
          · obtain ⟨hp3, hp4⟩ := hp2 hc1 hc2
            have hRe := hR3 hc1 hc2
            subst hRe
            simp
            refine drawE_of [(8, [0]), (9, []), (10, []), (11, [])] (by kernel_rfl) ?_
            simp
            refine call_step (iNegs_con dec (by omega) hdb) ?_
            simp
            first | refine app_lit (q := 1) vt_el_40 (by exact rfl) (by simp) (by exact rfl) (by exact rfl) (by simp) (by simp) (by first | (simp; done) | (simp; omega)) ?_ | refine app_row vt_el_40 (by exact rfl) (by simp) (by exact rfl) (by simp) (by first | (simp; done) | (simp; omega)) ?_
            simp
            exact ⟨[0, 5], by simp [visOut, visOk, hpf, enRow, e1]⟩
      · have hse : setLit par l = par.set m (-1) := by rw [e]; exact setLit_neg par m
        rw [hse] at hR hol hot
        rw [hp] at hol
        have hg := getD_some (p := par) (m := m) (by omega)
        have w3 : IntKind.i64.wrap (-l) = (m : Int) + 1 := by rw [wrap_id (by omega) (by omega)]; omega
        have w4 : IntKind.i64.wrap (m : Int) = (m : Int) := wrap_id (by omega) (by omega)
        have hset := map_setI (q := par) (m := m) (v := -1)
        generalize par.set m (-1) = own at *
        generalize par.getD m 0 = z0 at hg
        simp [hd1, hd2, hd3, wd, show ¬ 0 < l by omega, show l ≤ 0 by omega, w4,  w3, hg, hset]
        have hP := iProp_con cls own _ rfl hc (by omega) hot (by rw [hol]; exact hcl)
        have hPf := fun q => propL_facts (cls := cls) (p := own) (p' := q) (by rw [hol]; exact hcl) hot
        generalize propL cls own = Rq at *
        refine call_step (hP) ?_
        simp
        cases Rq with
        | none =>
          simp only at hR
          subst hR
          simp
          refine drawE_of [(8, [0]), (9, []), (10, []), (11, [])] (by kernel_rfl) ?_
          simp
          refine call_step (iNegs_con dec (by omega) hdb) ?_
          simp
          first | refine app_lit (q := 1) vt_el_40 (by exact rfl) (by simp) (by exact rfl) (by exact rfl) (by simp) (by simp) (by first | (simp; done) | (simp; omega)) ?_ | refine app_row vt_el_40 (by exact rfl) (by simp) (by exact rfl) (by simp) (by first | (simp; done) | (simp; omega)) ?_
          simp
          exact ⟨[0, 5], by simp [visOut, visOk, hpf, enRow, e1]⟩
        | some q =>
          obtain ⟨hql, hqt, -⟩ := hPf q rfl
          rw [hol] at hql
          have hzl := zeroAt_le q
          have hz0 := zeroAt_zero (q := q)
          replace hR : srchB S (left - 1) dec pf q = R := hR
          simp
          refine aw_loopU [true, true, false, false, false, false, false, false, false, true, false, true, false, false, false, false, false, false, false, false, false, false, false, false, false, false, false, false, false, false, false, false, false, false, false, false, false, false, false, false, false, false, false, false, false, false, false, false, false, false, false, false, false, false, false, false, false, false, false, false, false, false, false, false, false, false, false, false, false, false, false, false, false, false, false, false, false, false, false, false, false, false, false, false, false, false, false, false, false, false, false, false, false, false, false, false, false, false, false, false, false, false, false, false, false, false, false, false, false, false, false, false, false, false, false, false, false, false, false] (fun i : Nat => i ≤ q.length ∧ zeroAt (q.drop i) + i = zeroAt q) (fun i : Nat => [(11, .d (.int .i64 i))]) (fun i : Nat => []) (fun i : Nat => q.length - i) 0 ?_ ?_ ?_
          · exact ⟨by omega, by simp⟩
          · exact ⟨[0, 1, 2], by simp⟩
          rintro I Z μ hI hS hμ i ⟨hi, hzi⟩
          by_cases hend : i = zeroAt q
          case neg =>
            have hlt : i < q.length := by
              rcases Nat.lt_or_ge i q.length with h | h
              · exact h
              · rw [List.drop_eq_nil_of_le h, zeroAt] at hzi; omega
            have hx1 : q[i]? = some q[i] := List.getElem?_eq_getElem hlt
            rw [zeroAt_at hx1] at hzi
            generalize q[i] = y at *
            by_cases hy : y = 0
            · rw [if_pos hy] at hzi; omega
            rw [if_neg hy] at hzi
            have w5 : IntKind.i64.wrap ((i : Int) + 1) = (i : Int) + 1 := wrap_id (by omega) (by omega)
            simp [decide_eq_true hlt, hx1, hy, show (y != 0) = true by simpa using hy, w5]
            exact round_of hI hS hμ (i + 1) ⟨by omega, by omega⟩ (by omega) ⟨[0, 1, 2], by simp⟩
          subst hend
          clear hzi
          by_cases hfull : zeroAt q = q.length
          · have hRf := srchB_full hR hfull
            clear hR
            subst hRf
            have hlt : ¬ zeroAt q < q.length := by omega
            simp [hlt, decide_eq_false hlt, hfull]
            exact ⟨[0], by simp [visOut, visNo, hpf]⟩
          obtain ⟨r1, r2, hC1, hC2, hR1, hR2, hR3, hp1, hp2⟩ := step_two hv ih hF hR hfull hql hqt (by omega) (by omega) hdl hdk (by omega) hpc
          clear hR ih hF
          have hlt : zeroAt q < q.length := by omega
          have hx0 := hz0 hlt
          clear hz0
          generalize zeroAt q = z at *
          have wz : IntKind.i64.wrap ((z : Int) + 1) = (z : Int) + 1 := wrap_id (by omega) (by omega)
          have wn : IntKind.i64.wrap (-((z : Int) + 1)) = -((z : Int) + 1) := wrap_id (by omega) (by omega)
          have hzn : ¬ z = q.length := hfull
          have hzf : ((z : Int) == (q.length : Int)) = false := beq_false_of_ne (fun h => hzn (Int.ofNat.inj h))
          have hzg : (z == q.length) = false := beq_false_of_ne hzn
          simp [decide_eq_true hlt, hx0, wz, wn, hzn, hzf, hzg]
          refine aw_loopN [true, true, false, false, false, false, false, false, false, true, false, false, false, false, false, false, false, false, false, false, false, false, false, false, false, false, false, false, false, false, false, false, false, false, false, false, false, false, false, false, false, false, false, false, false, false, false, false, false, false, false, false, false, false, false, false, false, false, false, false, false, false, false, false, false, false, false, false, false, false, false, false, false, false, false, false, false, false, false, false, false, false, false, false, false, false, false, false, false, false, true, true, true, false, false, false, false, false, false, false, false, false, false, false, false, false, false, false, false, false, false, false, false, false, false, false, false, false, false] (fun i : Nat => i = 0 ∨ (i = 1 ∧ r1.code = 2) ∨ (i = 2 ∧ r1.code = 2 ∧ r2.code = 2)) (fun i : Nat => [(9, .d (.sl 3 (q.map (e1 eInt)))), (90, .ref 1), (91, .d (.int .i64 2)), (92, .d (.int .i64 i))]) (fun i : Nat => fun _ => if i = 0 then [visA v cls B (.d (.int .i64 (B - (left - 1 : Nat)))) (.nil 24) .any, .arr 3 true [[.int .i64 (-((z : Int) + 1))], [.int .i64 ((z : Int) + 1)]]] else if i = 1 then [visA v cls B (.d (.int .i64 (B - (r1.left : Nat)))) (.ref 2) .any, .arr 3 true [[.int .i64 (-((z : Int) + 1))], [.int .i64 ((z : Int) + 1)]], .arr 24 true (r1.pf.map enRow)] else [visA v cls B (.d (.int .i64 (B - (r2.left : Nat)))) (.ref 2) .any, .arr 3 true [[.int .i64 (-((z : Int) + 1))], [.int .i64 ((z : Int) + 1)]], .arr 24 true (r2.pf.map enRow)]) (fun i : Nat => 2 - i) 0 ?_ ?_ ?_
          · simp
          · exact ⟨[0, 3], by simp⟩
          rintro I2 Z2 μ2 hI2 hS2 hμ2 i (rfl | ⟨rfl, hc1⟩ | ⟨rfl, hc1, hc2⟩)
          · simp
            refine call_step (copyIs_con dec (by omega)) ?_
            simp
            refine app_data vt_el_24 rfl (by simp) rfl (by simp) (by simp) (by first | (simp; done) | (simp; omega)) (by simp [flatP, flatD]) ?_
            simp
            have hcc := hC1
            by_cases hk2 : r1.code = 2
            · simp only [visT, visIn, visOut, visOk, hpf, hk2, if_true, if_false] at hcc
              refine callT_step (hcc) [4] [0] (by simp) ?_
              simp [hk2, show IntKind.i64.wrap 1 = 1 from rfl, show IntKind.i64.wrap 2 = 2 from rfl]
              exact round_of hI2 hS2 hμ2 1 (.inr (.inl ⟨rfl, hk2⟩)) (by simp) ⟨[0, 1, 5], by simp⟩
            · have hRe := hR1 hk2
              subst hRe
              have hk3 : (R.code != 2) = true := by simpa using hk2
              by_cases hk1 : R.code = 1
              · simp only [visT, visIn, visOut, visNo, hpf, hk2, hk1, if_true, if_false] at hcc
                simp only [show ((1 : Int) = 2) = False by simp, if_false] at hcc
                refine callT_step (hcc) [4] [0] (by simp) ?_
                simp [hk2, hk3, hk1]
                exact ⟨[0], by simp [visOut, visNo, hpf, hk2, hk1]⟩
              · simp only [visT, visIn, visOut, visNo, hpf, hk2, hk1, if_true, if_false] at hcc
                refine callT_step (hcc) [4] [0] (by simp) ?_
                simp [hk2, hk3, hk1]
                exact ⟨[0], by simp [visOut, visNo, hpf, hk2, hk1]⟩
          · have hpn := hp1 hc1
            simp
            refine call_step (copyIs_con dec (by omega)) ?_
            simp
            refine app_data vt_el_24 rfl (by simp) rfl (by simp) (by simp) (by first | (simp; done) | (simp; omega)) (by simp [flatP, flatD]) ?_
            simp
            have hcc := hC2 hc1
            by_cases hk2 : r2.code = 2
            · simp only [visT, visIn, visOut, visOk, hpn, hk2, if_true, if_false] at hcc
              refine callT_step (hcc) [5] [0, 2] (by simp) ?_
              simp [hk2, show IntKind.i64.wrap 1 = 1 from rfl, show IntKind.i64.wrap 2 = 2 from rfl]
              exact round_of hI2 hS2 hμ2 2 (.inr (.inr ⟨rfl, hc1, hk2⟩)) (by simp) ⟨[0, 1, 6], by simp⟩
            · have hRe := hR2 hc1 hk2
              subst hRe
              have hk3 : (R.code != 2) = true := by simpa using hk2
              by_cases hk1 : R.code = 1
              · simp only [visT, visIn, visOut, visNo, hpn, hk2, hk1, if_true, if_false] at hcc
                simp only [show ((1 : Int) = 2) = False by simp, if_false] at hcc
                refine callT_step (hcc) [5] [0, 2] (by simp) ?_
                simp [hk2, hk3, hk1]
                exact ⟨[0], by simp [visOut, visNo, hpf, hk2, hk1]⟩
              · simp only [visT, visIn, visOut, visNo, hpn, hk2, hk1, if_true, if_false] at hcc
                refine callT_step (hcc) [5] [0, 2] (by simp) ?_
                simp [hk2, hk3, hk1]
                exact ⟨[0], by simp [visOut, visNo, hpf, hk2, hk1]⟩
          · obtain ⟨hp3, hp4⟩ := hp2 hc1 hc2
            have hRe := hR3 hc1 hc2
            subst hRe
            simp
            refine drawE_of [(8, [0]), (9, []), (10, []), (11, [])] (by kernel_rfl) ?_
            simp
            refine call_step (iNegs_con dec (by omega) hdb) ?_
            simp
            first | refine app_lit (q := 1) vt_el_40 (by exact rfl) (by simp) (by exact rfl) (by exact rfl) (by simp) (by simp) (by first | (simp; done) | (simp; omega)) ?_ | refine app_row vt_el_40 (by exact rfl) (by simp) (by exact rfl) (by simp) (by first | (simp; done) | (simp; omega)) ?_
            simp
            exact ⟨[0, 5], by simp [visOut, visOk, hpf, enRow, e1]⟩
    · simp [visIn, hpf]
      refine drawD_of 9 (by kernel_rfl) ?_
      simp
      by_cases h0 : left = 0
      · rw [if_pos h0] at hR
        subst hR h0
        simp [visOut, visNo, hpf]
        exact ⟨[0, 1], by simp⟩
      rw [if_neg h0] at hR
      have wv : IntKind.i64.wrap (B - (left : Int) + 1) = B - ((left - 1 : Nat) : Int) := by rw [wrap_id (by omega) (by omega)]; omega
      simp [show ¬ B ≤ B - (left : Int) by omega, show B - (left : Int) < B by omega, show (0 : Int) < left by omega, h0, wv]
      refine call_step (copyIs_con par (by omega)) ?_
      simp
      rcases hd with ⟨hd0, rfl⟩ | ⟨d0, l, hdec, hl, rfl⟩
      · have hdz : dec.length = 0 := by rw [hd0]; rfl
        clear hd0
        have hol := hp
        have hot := ht
        simp [hdz]
        intro _
        have hP := iProp_con cls own _ rfl hc (by omega) hot (by rw [hol]; exact hcl)
        have hPf := fun q => propL_facts (cls := cls) (p := own) (p' := q) (by rw [hol]; exact hcl) hot
        generalize propL cls own = Rq at *
        refine call_step (hP) ?_
        simp
        cases Rq with
        | none =>
          simp only at hR
          subst hR
          simp
          refine drawE_of [(8, [0]), (9, []), (10, []), (11, [])] (by kernel_rfl) ?_
          simp
          refine call_step (iNegs_con dec (by omega) hdb) ?_
          simp
          first | refine app_lit (q := 1) vt_el_40 (by exact rfl) (by simp) (by exact rfl) (by exact rfl) (by simp) (by simp) (by first | (simp; done) | (simp; omega)) ?_ | refine app_row vt_el_40 (by exact rfl) (by simp) (by exact rfl) (by simp) (by first | (simp; done) | (simp; omega)) ?_
          simp
          exact ⟨[0, 1, 6], by simp [visOut, visOk, hpf, enRow, e1]⟩
        | some q =>
          obtain ⟨hql, hqt, -⟩ := hPf q rfl
          rw [hol] at hql
          have hzl := zeroAt_le q
          have hz0 := zeroAt_zero (q := q)
          replace hR : srchB S (left - 1) dec pf q = R := hR
          simp
          refine aw_loopU [true, true, false, false, false, false, false, false, false, true, false, true, false, false, false, false, false, false, false, false, false, false, false, false, false, false, false, false, false, false, false, false, false, false, false, false, false, false, false, false, false, false, false, false, false, false, false, false, false, false, false, false, false, false, false, false, false, false, false, false, false, false, false, false, false, false, false, false, false, false, false, false, false, false, false, false, false, false, false, false, false, false, false, false, false, false, false, false, false, false, false, false, false, false, false, false, false, false, false, false, false, false, false, false, false, false, false, false, false, false, false, false, false, false, false, false, false, false, false] (fun i : Nat => i ≤ q.length ∧ zeroAt (q.drop i) + i = zeroAt q) (fun i : Nat => [(11, .d (.int .i64 i))]) (fun i : Nat => []) (fun i : Nat => q.length - i) 0 ?_ ?_ ?_
          · exact ⟨by omega, by simp⟩
          · exact ⟨[0, 1, 2, 3], by simp⟩
          rintro I Z μ hI hS hμ i ⟨hi, hzi⟩
          by_cases hend : i = zeroAt q
          case neg =>
            have hlt : i < q.length := by
              rcases Nat.lt_or_ge i q.length with h | h
              · exact h
              · rw [List.drop_eq_nil_of_le h, zeroAt] at hzi; omega
            have hx1 : q[i]? = some q[i] := List.getElem?_eq_getElem hlt
            rw [zeroAt_at hx1] at hzi
            generalize q[i] = y at *
            by_cases hy : y = 0
            · rw [if_pos hy] at hzi; omega
            rw [if_neg hy] at hzi
            have w5 : IntKind.i64.wrap ((i : Int) + 1) = (i : Int) + 1 := wrap_id (by omega) (by omega)
            simp [decide_eq_true hlt, hx1, hy, show (y != 0) = true by simpa using hy, w5]
            exact round_of hI hS hμ (i + 1) ⟨by omega, by omega⟩ (by omega) ⟨[0, 1, 2, 3], by simp⟩
          subst hend
          clear hzi
          by_cases hfull : zeroAt q = q.length
          · have hRf := srchB_full hR hfull
            clear hR
            subst hRf
            have hlt : ¬ zeroAt q < q.length := by omega
            simp [hlt, decide_eq_false hlt, hfull]
            exact ⟨[0, 1], by simp [visOut, visNo, hpf]⟩
          obtain ⟨r1, r2, hC1, hC2, hR1, hR2, hR3, hp1, hp2⟩ := step_two hv ih hF hR hfull hql hqt (by omega) (by omega) hdl hdk (by omega) hpc
          clear hR ih hF
          have hlt : zeroAt q < q.length := by omega
          have hx0 := hz0 hlt
          clear hz0
          generalize zeroAt q = z at *
          have wz : IntKind.i64.wrap ((z : Int) + 1) = (z : Int) + 1 := wrap_id (by omega) (by omega)
          have wn : IntKind.i64.wrap (-((z : Int) + 1)) = -((z : Int) + 1) := wrap_id (by omega) (by omega)
          have hzn : ¬ z = q.length := hfull
          have hzf : ((z : Int) == (q.length : Int)) = false := beq_false_of_ne (fun h => hzn (Int.ofNat.inj h))
          have hzg : (z == q.length) = false := beq_false_of_ne hzn
          simp [decide_eq_true hlt, hx0, wz, wn, hzn, hzf, hzg]
          refine aw_loopN [true, true, false, false, false, false, false, false, false, true, false, false, false, false, false, false, false, false, false, false, false, false, false, false, false, false, false, false, false, false, false, false, false, false, false, false, false, false, false, false, false, false, false, false, false, false, false, false, false, false, false, false, false, false, false, false, false, false, false, false, false, false, false, false, false, false, false, false, false, false, false, false, false, false, false, false, false, false, false, false, false, false, false, false, false, false, false, false, false, false, true, true, true, false, false, false, false, false, false, false, false, false, false, false, false, false, false, false, false, false, false, false, false, false, false, false, false, false, false] (fun i : Nat => i = 0 ∨ (i = 1 ∧ r1.code = 2) ∨ (i = 2 ∧ r1.code = 2 ∧ r2.code = 2)) (fun i : Nat => [(9, .d (.sl 3 (q.map (e1 eInt)))), (90, .ref 2), (91, .d (.int .i64 2)), (92, .d (.int .i64 i))]) (fun i : Nat => fun _ => if i = 0 then [visA v cls B (.d (.int .i64 (B - (left - 1 : Nat)))) (.ref 1) .any, .arr 24 true (pf.map enRow), .arr 3 true [[.int .i64 (-((z : Int) + 1))], [.int .i64 ((z : Int) + 1)]]] else if i = 1 then [visA v cls B (.d (.int .i64 (B - (r1.left : Nat)))) (.ref 3) .any, .dead, .arr 3 true [[.int .i64 (-((z : Int) + 1))], [.int .i64 ((z : Int) + 1)]], .arr 24 true (r1.pf.map enRow)] else [visA v cls B (.d (.int .i64 (B - (r2.left : Nat)))) (.ref 3) .any, .dead, .arr 3 true [[.int .i64 (-((z : Int) + 1))], [.int .i64 ((z : Int) + 1)]], .arr 24 true (r2.pf.map enRow)]) (fun i : Nat => 2 - i) 0 ?_ ?_ ?_
          · simp
          · exact ⟨[0, 1, 4], by simp⟩
          rintro I2 Z2 μ2 hI2 hS2 hμ2 i (rfl | ⟨rfl, hc1⟩ | ⟨rfl, hc1, hc2⟩)
          · simp
            refine call_step (copyIs_con dec (by omega)) ?_
            simp
            refine app_data vt_el_24 rfl (by simp) rfl (by simp) (by simp) (by first | (simp; done) | (simp; omega)) (by simp [flatP, flatD]) ?_
            simp
            have hcc := hC1
            by_cases hk2 : r1.code = 2
            · simp only [visT, visIn, visOut, visOk, hpf, hk2, if_true, if_false] at hcc
              refine callT_step (hcc) [5] [0, 1] (by simp) ?_
              simp [hk2, show IntKind.i64.wrap 1 = 1 from rfl, show IntKind.i64.wrap 2 = 2 from rfl]
              exact round_of hI2 hS2 hμ2 1 (.inr (.inl ⟨rfl, hk2⟩)) (by simp) ⟨[0, 1, 2, 6], by simp⟩
            · have hRe := hR1 hk2
              subst hRe
              have hk3 : (R.code != 2) = true := by simpa using hk2
              by_cases hk1 : R.code = 1
              · simp only [visT, visIn, visOut, visNo, hpf, hk2, hk1, if_true, if_false] at hcc
                simp only [show ((1 : Int) = 2) = False by simp, if_false] at hcc
                refine callT_step (hcc) [5] [0, 1] (by simp) ?_
                simp [hk2, hk3, hk1]
                exact ⟨[0, 1], by simp [visOut, visNo, hpf, hk2, hk1]⟩
              · simp only [visT, visIn, visOut, visNo, hpf, hk2, hk1, if_true, if_false] at hcc
                refine callT_step (hcc) [5] [0, 1] (by simp) ?_
                simp [hk2, hk3, hk1]
                exact ⟨[0, 1], by simp [visOut, visNo, hpf, hk2, hk1]⟩
          · have hpn := hp1 hc1
            simp
            refine call_step (copyIs_con dec (by omega)) ?_
            simp
            refine app_data vt_el_24 rfl (by simp) rfl (by simp) (by simp) (by first | (simp; done) | (simp; omega)) (by simp [flatP, flatD]) ?_
            simp
            have hcc := hC2 hc1
            by_cases hk2 : r2.code = 2
            · simp only [visT, visIn, visOut, visOk, hpn, hk2, if_true, if_false] at hcc
              refine callT_step (hcc) [6] [0, 3] (by simp) ?_
              simp [hk2, show IntKind.i64.wrap 1 = 1 from rfl, show IntKind.i64.wrap 2 = 2 from rfl]
              exact round_of hI2 hS2 hμ2 2 (.inr (.inr ⟨rfl, hc1, hk2⟩)) (by simp) ⟨[0, 1, 2, 7], by simp⟩
            · have hRe := hR2 hc1 hk2
              subst hRe
              have hk3 : (R.code != 2) = true := by simpa using hk2
              by_cases hk1 : R.code = 1
              · simp only [visT, visIn, visOut, visNo, hpn, hk2, hk1, if_true, if_false] at hcc
                simp only [show ((1 : Int) = 2) = False by simp, if_false] at hcc
                refine callT_step (hcc) [6] [0, 3] (by simp) ?_
                simp [hk2, hk3, hk1]
                exact ⟨[0, 1], by simp [visOut, visNo, hpf, hk2, hk1]⟩
              · simp only [visT, visIn, visOut, visNo, hpn, hk2, hk1, if_true, if_false] at hcc
                refine callT_step (hcc) [6] [0, 3] (by simp) ?_
                simp [hk2, hk3, hk1]
                exact ⟨[0, 1], by simp [visOut, visNo, hpf, hk2, hk1]⟩
          · obtain ⟨hp3, hp4⟩ := hp2 hc1 hc2
            have hRe := hR3 hc1 hc2
            subst hRe
            simp
            refine drawE_of [(8, [0]), (9, []), (10, []), (11, [])] (by kernel_rfl) ?_
            simp
            refine call_step (iNegs_con dec (by omega) hdb) ?_
            simp
            first | refine app_lit (q := 1) vt_el_40 (by exact rfl) (by simp) (by exact rfl) (by exact rfl) (by simp) (by simp) (by first | (simp; done) | (simp; omega)) ?_ | refine app_row vt_el_40 (by exact rfl) (by simp) (by exact rfl) (by simp) (by first | (simp; done) | (simp; omega)) ?_
            simp
            exact ⟨[0, 1, 6], by simp [visOut, visOk, hpf, enRow, e1]⟩
      have hd1 : dec[dec.length - 1]? = some l := by rw [hdec]; simp
      have hd2 : 0 < dec.length := by rw [hdec]; simp
      have hd3 : ¬ dec = [] := by rw [hdec]; simp
      clear hdec
      have wd : IntKind.i64.wrap ((dec.length : Int) - 1) = ((dec.length - 1 : Nat) : Int) := by rw [wrap_id (by omega) (by omega)]; omega
      have hol := setLit_len par l
      have hot := trits_setLit ht l
      rcases lit_cases (n := v) hl with ⟨m, hm, e⟩ | ⟨m, hm, e⟩
      · have hse : setLit par l = par.set m 1 := by rw [e]; exact setLit_pos par m
        rw [hse] at hR hol hot
        rw [hp] at hol
        have hg := getD_some (p := par) (m := m) (by omega)
        have w3 : IntKind.i64.wrap (l - 1) = (m : Int) := by rw [wrap_id (by omega) (by omega)]; omega
        have hset := map_setI (q := par) (m := m) (v := 1)
        generalize par.set m 1 = own at *
        generalize par.getD m 0 = z0 at hg
        simp [hd1, hd2, hd3, wd, show 0 < l by omega, show ¬ l ≤ 0 by omega,  w3, hg, hset]
        have hP := iProp_con cls own _ rfl hc (by omega) hot (by rw [hol]; exact hcl)
        have hPf := fun q => propL_facts (cls := cls) (p := own) (p' := q) (by rw [hol]; exact hcl) hot
        generalize propL cls own = Rq at *
        refine call_step (hP) ?_
        simp
        cases Rq with
        | none =>
          simp only at hR
          subst hR
          simp
          refine drawE_of [(8, [0]), (9, []), (10, []), (11, [])] (by kernel_rfl) ?_
          simp
          refine call_step (iNegs_con dec (by omega) hdb) ?_
          simp
          first | refine app_lit (q := 1) vt_el_40 (by exact rfl) (by simp) (by exact rfl) (by exact rfl) (by simp) (by simp) (by first | (simp; done) | (simp; omega)) ?_ | refine app_row vt_el_40 (by exact rfl) (by simp) (by exact rfl) (by simp) (by first | (simp; done) | (simp; omega)) ?_
          simp
          exact ⟨[0, 1, 6], by simp [visOut, visOk, hpf, enRow, e1]⟩
        | some q =>
          obtain ⟨hql, hqt, -⟩ := hPf q rfl
          rw [hol] at hql
          have hzl := zeroAt_le q
          have hz0 := zeroAt_zero (q := q)
          replace hR : srchB S (left - 1) dec pf q = R := hR
          simp
          refine aw_loopU [true, true, false, false, false, false, false, false, false, true, false, true, false, false, false, false, false, false, false, false, false, false, false, false, false, false, false, false, false, false, false, false, false, false, false, false, false, false, false, false, false, false, false, false, false, false, false, false, false, false, false, false, false, false, false, false, false, false, false, false, false, false, false, false, false, false, false, false, false, false, false, false, false, false, false, false, false, false, false, false, false, false, false, false, false, false, false, false, false, false, false, false, false, false, false, false, false, false, false, false, false, false, false, false, false, false, false, false, false, false, false, false, false, false, false, false, false, false, false] (fun i : Nat => i ≤ q.length ∧ zeroAt (q.drop i) + i = zeroAt q) (fun i : Nat => [(11, .d (.int .i64 i))]) (fun i : Nat => []) (fun i : Nat => q.length - i) 0 ?_ ?_ ?_
          · exact ⟨by omega, by simp⟩
          · exact ⟨[0, 1, 2, 3], by simp⟩
          rintro I Z μ hI hS hμ i ⟨hi, hzi⟩
          by_cases hend : i = zeroAt q
          case neg =>
            have hlt : i < q.length := by
              rcases Nat.lt_or_ge i q.length with h | h
              · exact h
              · rw [List.drop_eq_nil_of_le h, zeroAt] at hzi; omega
            have hx1 : q[i]? = some q[i] := List.getElem?_eq_getElem hlt
            rw [zeroAt_at hx1] at hzi
            generalize q[i] = y at *
            by_cases hy : y = 0
            · rw [if_pos hy] at hzi; omega
            rw [if_neg hy] at hzi
            have w5 : IntKind.i64.wrap ((i : Int) + 1) = (i : Int) + 1 := wrap_id (by omega) (by omega)
            simp [decide_eq_true hlt, hx1, hy, show (y != 0) = true by simpa using hy, w5]
            exact round_of hI hS hμ (i + 1) ⟨by omega, by omega⟩ (by omega) ⟨[0, 1, 2, 3], by simp⟩
          subst hend
          clear hzi
          by_cases hfull : zeroAt q = q.length
          · have hRf := srchB_full hR hfull
            clear hR
            subst hRf
            have hlt : ¬ zeroAt q < q.length := by omega
            simp [hlt, decide_eq_false hlt, hfull]
            exact ⟨[0, 1], by simp [visOut, visNo, hpf]⟩
          obtain ⟨r1, r2, hC1, hC2, hR1, hR2, hR3, hp1, hp2⟩ := step_two hv ih hF hR hfull hql hqt (by omega) (by omega) hdl hdk (by omega) hpc
          clear hR ih hF
          have hlt : zeroAt q < q.length := by omega
          have hx0 := hz0 hlt
          clear hz0
          generalize zeroAt q = z at *
          have wz : IntKind.i64.wrap ((z : Int) + 1) = (z : Int) + 1 := wrap_id (by omega) (by omega)
          have wn : IntKind.i64.wrap (-((z : Int) + 1)) = -((z : Int) + 1) := wrap_id (by omega) (by omega)
          have hzn : ¬ z = q.length := hfull
          have hzf : ((z : Int) == (q.length : Int)) = false := beq_false_of_ne (fun h => hzn (Int.ofNat.inj h))
          have hzg : (z == q.length) = false := beq_false_of_ne hzn
          simp [decide_eq_true hlt, hx0, wz, wn, hzn, hzf, hzg]
          refine aw_loopN [true, true, false, false, false, false, false, false, false, true, false, false, false, false, false, false, false, false, false, false, false, false, false, false, false, false, false, false, false, false, false, false, false, false, false, false, false, false, false, false, false, false, false, false, false, false, false, false, false, false, false, false, false, false, false, false, false, false, false, false, false, false, false, false, false, false, false, false, false, false, false, false, false, false, false, false, false, false, false, false, false, false, false, false, false, false, false, false, false, false, true, true, true, false, false, false, false, false, false, false, false, false, false, false, false, false, false, false, false, false, false, false, false, false, false, false, false, false, false] (fun i : Nat => i = 0 ∨ (i = 1 ∧ r1.code = 2) ∨ (i = 2 ∧ r1.code = 2 ∧ r2.code = 2)) (fun i : Nat => [(9, .d (.sl 3 (q.map (e1 eInt)))), (90, .ref 2), (91, .d (.int .i64 2)), (92, .d (.int .i64 i))]) (fun i : Nat => fun _ => if i = 0 then [visA v cls B (.d (.int .i64 (B - (left - 1 : Nat)))) (.ref 1) .any, .arr 24 true (pf.map enRow), .arr 3 true [[.int .i64 (-((z : Int) + 1))], [.int .i64 ((z : Int) + 1)]]] else if i = 1 then [visA v cls B (.d (.int .i64 (B - (r1.left : Nat)))) (.ref 3) .any, .dead, .arr 3 true [[.int .i64 (-((z : Int) + 1))], [.int .i64 ((z : Int) + 1)]], .arr 24 true (r1.pf.map enRow)] else [visA v cls B (.d (.int .i64 (B - (r2.left : Nat)))) (.ref 3) .any, .dead, .arr 3 true [[.int .i64 (-((z : Int) + 1))], [.int .i64 ((z : Int) + 1)]], .arr 24 true (r2.pf.map enRow)]) (fun i : Nat => 2 - i) 0 ?_ ?_ ?_
          · simp
          · exact ⟨[0, 1, 4], by simp⟩
          rintro I2 Z2 μ2 hI2 hS2 hμ2 i (rfl | ⟨rfl, hc1⟩ | ⟨rfl, hc1, hc2⟩)
          · simp
            refine call_step (copyIs_con dec (by omega)) ?_
            simp
            refine app_data vt_el_24 rfl (by simp) rfl (by simp) (by simp) (by first | (simp; done) | (simp; omega)) (by simp [flatP, flatD]) ?_
            simp
            have hcc := hC1
            by_cases hk2 : r1.code = 2
            · simp only [visT, visIn, visOut, visOk, hpf, hk2, if_true, if_false] at hcc
              refine callT_step (hcc) [5] [0, 1] (by simp) ?_
              simp [hk2, show IntKind.i64.wrap 1 = 1 from rfl, show IntKind.i64.wrap 2 = 2 from rfl]
              exact round_of hI2 hS2 hμ2 1 (.inr (.inl ⟨rfl, hk2⟩)) (by simp) ⟨[0, 1, 2, 6], by simp⟩
            · have hRe := hR1 hk2
              subst hRe
              have hk3 : (R.code != 2) = true := by simpa using hk2
              by_cases hk1 : R.code = 1
              · simp only [visT, visIn, visOut, visNo, hpf, hk2, hk1, if_true, if_false] at hcc
                simp only [show ((1 : Int) = 2) = False by simp, if_false] at hcc
                refine callT_step (hcc) [5] [0, 1] (by simp) ?_
                simp [hk2, hk3, hk1]
                exact ⟨[0, 1], by simp [visOut, visNo, hpf, hk2, hk1]⟩
              · simp only [visT, visIn, visOut, visNo, hpf, hk2, hk1, if_true, if_false] at hcc
                refine callT_step (hcc) [5] [0, 1] (by simp) ?_
                simp [hk2, hk3, hk1]
                exact ⟨[0, 1], by simp [visOut, visNo, hpf, hk2, hk1]⟩
          · have hpn := hp1 hc1
            simp
            refine call_step (copyIs_con dec (by omega)) ?_
            simp
            refine app_data vt_el_24 rfl (by simp) rfl (by simp) (by simp) (by first | (simp; done) | (simp; omega)) (by simp [flatP, flatD]) ?_
            simp
            have hcc := hC2 hc1
            by_cases hk2 : r2.code = 2
            · simp only [visT, visIn, visOut, visOk, hpn, hk2, if_true, if_false] at hcc
              refine callT_step (hcc) [6] [0, 3] (by simp) ?_
              simp [hk2, show IntKind.i64.wrap 1 = 1 from rfl, show IntKind.i64.wrap 2 = 2 from rfl]
              exact round_of hI2 hS2 hμ2 2 (.inr (.inr ⟨rfl, hc1, hk2⟩)) (by simp) ⟨[0, 1, 2, 7], by simp⟩
            · have hRe := hR2 hc1 hk2
              subst hRe
              have hk3 : (R.code != 2) = true := by simpa using hk2
              by_cases hk1 : R.code = 1
              · simp only [visT, visIn, visOut, visNo, hpn, hk2, hk1, if_true, if_false] at hcc
                simp only [show ((1 : Int) = 2) = False by simp, if_false] at hcc
                refine callT_step (hcc) [6] [0, 3] (by simp) ?_
                simp [hk2, hk3, hk1]
                exact ⟨[0, 1], by simp [visOut, visNo, hpf, hk2, hk1]⟩
              · simp only [visT, visIn, visOut, visNo, hpn, hk2, hk1, if_true, if_false] at hcc
                refine callT_step (hcc) [6] [0, 3] (by simp) ?_
                simp [hk2, hk3, hk1]
                exact ⟨[0, 1], by simp [visOut, visNo, hpf, hk2, hk1]⟩
          · obtain ⟨hp3, hp4⟩ := hp2 hc1 hc2
            have hRe := hR3 hc1 hc2
            subst hRe
            simp
            refine drawE_of [(8, [0]), (9, []), (10, []), (11, [])] (by kernel_rfl) ?_
            simp
            refine call_step (iNegs_con dec (by omega) hdb) ?_
            simp
            first | refine app_lit (q := 1) vt_el_40 (by exact rfl) (by simp) (by exact rfl) (by exact rfl) (by simp) (by simp) (by first | (simp; done) | (simp; omega)) ?_ | refine app_row vt_el_40 (by exact rfl) (by simp) (by exact rfl) (by simp) (by first | (simp; done) | (simp; omega)) ?_
            simp
            exact ⟨[0, 1, 6], by simp [visOut, visOk, hpf, enRow, e1]⟩
      · have hse : setLit par l = par.set m (-1) := by rw [e]; exact setLit_neg par m
        rw [hse] at hR hol hot
        rw [hp] at hol
        have hg := getD_some (p := par) (m := m) (by omega)
        have w3 : IntKind.i64.wrap (-l) = (m : Int) + 1 := by rw [wrap_id (by omega) (by omega)]; omega
        have w4 : IntKind.i64.wrap (m : Int) = (m : Int) := wrap_id (by omega) (by omega)
        have hset := map_setI (q := par) (m := m) (v := -1)
        generalize par.set m (-1) = own at *
        generalize par.getD m 0 = z0 at hg
        simp [hd1, hd2, hd3, wd, show ¬ 0 < l by omega, show l ≤ 0 by omega, w4,  w3, hg, hset]
        have hP := iProp_con cls own _ rfl hc (by omega) hot (by rw [hol]; exact hcl)
        have hPf := fun q => propL_facts (cls := cls) (p := own) (p' := q) (by rw [hol]; exact hcl) hot
        generalize propL cls own = Rq at *
        refine call_step (hP) ?_
        simp
        cases Rq with
        | none =>
          simp only at hR
          subst hR
          simp
          refine drawE_of [(8, [0]), (9, []), (10, []), (11, [])] (by kernel_rfl) ?_
          simp
          refine call_step (iNegs_con dec (by omega) hdb) ?_
          simp
          first | refine app_lit (q := 1) vt_el_40 (by exact rfl) (by simp) (by exact rfl) (by exact rfl) (by simp) (by simp) (by first | (simp; done) | (simp; omega)) ?_ | refine app_row vt_el_40 (by exact rfl) (by simp) (by exact rfl) (by simp) (by first | (simp; done) | (simp; omega)) ?_
          simp
          exact ⟨[0, 1, 6], by simp [visOut, visOk, hpf, enRow, e1]⟩
        | some q =>
          obtain ⟨hql, hqt, -⟩ := hPf q rfl
          rw [hol] at hql
          have hzl := zeroAt_le q
          have hz0 := zeroAt_zero (q := q)
          replace hR : srchB S (left - 1) dec pf q = R := hR
          simp
          refine aw_loopU [true, true, false, false, false, false, false, false, false, true, false, true, false, false, false, false, false, false, false, false, false, false, false, false, false, false, false, false, false, false, false, false, false, false, false, false, false, false, false, false, false, false, false, false, false, false, false, false, false, false, false, false, false, false, false, false, false, false, false, false, false, false, false, false, false, false, false, false, false, false, false, false, false, false, false, false, false, false, false, false, false, false, false, false, false, false, false, false, false, false, false, false, false, false, false, false, false, false, false, false, false, false, false, false, false, false, false, false, false, false, false, false, false, false, false, false, false, false, false] (fun i : Nat => i ≤ q.length ∧ zeroAt (q.drop i) + i = zeroAt q) (fun i : Nat => [(11, .d (.int .i64 i))]) (fun i : Nat => []) (fun i : Nat => q.length - i) 0 ?_ ?_ ?_
          · exact ⟨by omega, by simp⟩
          · exact ⟨[0, 1, 2, 3], by simp⟩
          rintro I Z μ hI hS hμ i ⟨hi, hzi⟩
          by_cases hend : i = zeroAt q
          case neg =>
            have hlt : i < q.length := by
              rcases Nat.lt_or_ge i q.length with h | h
              · exact h
              · rw [List.drop_eq_nil_of_le h, zeroAt] at hzi; omega
            have hx1 : q[i]? = some q[i] := List.getElem?_eq_getElem hlt
            rw [zeroAt_at hx1] at hzi
            generalize q[i] = y at *
            by_cases hy : y = 0
            · rw [if_pos hy] at hzi; omega
            rw [if_neg hy] at hzi
            have w5 : IntKind.i64.wrap ((i : Int) + 1) = (i : Int) + 1 := wrap_id (by omega) (by omega)
            simp [decide_eq_true hlt, hx1, hy, show (y != 0) = true by simpa using hy, w5]
            exact round_of hI hS hμ (i + 1) ⟨by omega, by omega⟩ (by omega) ⟨[0, 1, 2, 3], by simp⟩
          subst hend
          clear hzi
          by_cases hfull : zeroAt q = q.length
          · have hRf := srchB_full hR hfull
            clear hR
            subst hRf
            have hlt : ¬ zeroAt q < q.length := by omega
            simp [hlt, decide_eq_false hlt, hfull]
            exact ⟨[0, 1], by simp [visOut, visNo, hpf]⟩
          obtain ⟨r1, r2, hC1, hC2, hR1, hR2, hR3, hp1, hp2⟩ := step_two hv ih hF hR hfull hql hqt (by omega) (by omega) hdl hdk (by omega) hpc
          clear hR ih hF
          have hlt : zeroAt q < q.length := by omega
          have hx0 := hz0 hlt
          clear hz0
          generalize zeroAt q = z at *
          have wz : IntKind.i64.wrap ((z : Int) + 1) = (z : Int) + 1 := wrap_id (by omega) (by omega)
          have wn : IntKind.i64.wrap (-((z : Int) + 1)) = -((z : Int) + 1) := wrap_id (by omega) (by omega)
          have hzn : ¬ z = q.length := hfull
          have hzf : ((z : Int) == (q.length : Int)) = false := beq_false_of_ne (fun h => hzn (Int.ofNat.inj h))
          have hzg : (z == q.length) = false := beq_false_of_ne hzn
          simp [decide_eq_true hlt, hx0, wz, wn, hzn, hzf, hzg]
          refine aw_loopN [true, true, false, false, false, false, false, false, false, true, false, false, false, false, false, false, false, false, false, false, false, false, false, false, false, false, false, false, false, false, false, false, false, false, false, false, false, false, false, false, false, false, false, false, false, false, false, false, false, false, false, false, false, false, false, false, false, false, false, false, false, false, false, false, false, false, false, false, false, false, false, false, false, false, false, false, false, false, false, false, false, false, false, false, false, false, false, false, false, false, true, true, true, false, false, false, false, false, false, false, false, false, false, false, false, false, false, false, false, false, false, false, false, false, false, false, false, false, false] (fun i : Nat => i = 0 ∨ (i = 1 ∧ r1.code = 2) ∨ (i = 2 ∧ r1.code = 2 ∧ r2.code = 2)) (fun i : Nat => [(9, .d (.sl 3 (q.map (e1 eInt)))), (90, .ref 2), (91, .d (.int .i64 2)), (92, .d (.int .i64 i))]) (fun i : Nat => fun _ => if i = 0 then [visA v cls B (.d (.int .i64 (B - (left - 1 : Nat)))) (.ref 1) .any, .arr 24 true (pf.map enRow), .arr 3 true [[.int .i64 (-((z : Int) + 1))], [.int .i64 ((z : Int) + 1)]]] else if i = 1 then [visA v cls B (.d (.int .i64 (B - (r1.left : Nat)))) (.ref 3) .any, .dead, .arr 3 true [[.int .i64 (-((z : Int) + 1))], [.int .i64 ((z : Int) + 1)]], .arr 24 true (r1.pf.map enRow)] else [visA v cls B (.d (.int .i64 (B - (r2.left : Nat)))) (.ref 3) .any, .dead, .arr 3 true [[.int .i64 (-((z : Int) + 1))], [.int .i64 ((z : Int) + 1)]], .arr 24 true (r2.pf.map enRow)]) (fun i : Nat => 2 - i) 0 ?_ ?_ ?_
          · simp
          · exact ⟨[0, 1, 4], by simp⟩
          rintro I2 Z2 μ2 hI2 hS2 hμ2 i (rfl | ⟨rfl, hc1⟩ | ⟨rfl, hc1, hc2⟩)
          · simp
            refine call_step (copyIs_con dec (by omega)) ?_
            simp
            refine app_data vt_el_24 rfl (by simp) rfl (by simp) (by simp) (by first | (simp; done) | (simp; omega)) (by simp [flatP, flatD]) ?_
            simp
            have hcc := hC1
            by_cases hk2 : r1.code = 2
            · simp only [visT, visIn, visOut, visOk, hpf, hk2, if_true, if_false] at hcc
              refine callT_step (hcc) [5] [0, 1] (by simp) ?_
              simp [hk2, show IntKind.i64.wrap 1 = 1 from rfl, show IntKind.i64.wrap 2 = 2 from rfl]
              exact round_of hI2 hS2 hμ2 1 (.inr (.inl ⟨rfl, hk2⟩)) (by simp) ⟨[0, 1, 2, 6], by simp⟩
            · have hRe := hR1 hk2
              subst hRe
              have hk3 : (R.code != 2) = true := by simpa using hk2
              by_cases hk1 : R.code = 1
              · simp only [visT, visIn, visOut, visNo, hpf, hk2, hk1, if_true, if_false] at hcc
                simp only [show ((1 : Int) = 2) = False by simp, if_false] at hcc
                refine callT_step (hcc) [5] [0, 1] (by simp) ?_
                simp [hk2, hk3, hk1]
                exact ⟨[0, 1], by simp [visOut, visNo, hpf, hk2, hk1]⟩
              · simp only [visT, visIn, visOut, visNo, hpf, hk2, hk1, if_true, if_false] at hcc
                refine callT_step (hcc) [5] [0, 1] (by simp) ?_
                simp [hk2, hk3, hk1]
                exact ⟨[0, 1], by simp [visOut, visNo, hpf, hk2, hk1]⟩
          · have hpn := hp1 hc1
            simp
            refine call_step (copyIs_con dec (by omega)) ?_
            simp
            refine app_data vt_el_24 rfl (by simp) rfl (by simp) (by simp) (by first | (simp; done) | (simp; omega)) (by simp [flatP, flatD]) ?_
            simp
            have hcc := hC2 hc1
            by_cases hk2 : r2.code = 2
            · simp only [visT, visIn, visOut, visOk, hpn, hk2, if_true, if_false] at hcc
              refine callT_step (hcc) [6] [0, 3] (by simp) ?_
              simp [hk2, show IntKind.i64.wrap 1 = 1 from rfl, show IntKind.i64.wrap 2 = 2 from rfl]
              exact round_of hI2 hS2 hμ2 2 (.inr (.inr ⟨rfl, hc1, hk2⟩)) (by simp) ⟨[0, 1, 2, 7], by simp⟩
            · have hRe := hR2 hc1 hk2
              subst hRe
              have hk3 : (R.code != 2) = true := by simpa using hk2
              by_cases hk1 : R.code = 1
              · simp only [visT, visIn, visOut, visNo, hpn, hk2, hk1, if_true, if_false] at hcc
                simp only [show ((1 : Int) = 2) = False by simp, if_false] at hcc
                refine callT_step (hcc) [6] [0, 3] (by simp) ?_
                simp [hk2, hk3, hk1]
                exact ⟨[0, 1], by simp [visOut, visNo, hpf, hk2, hk1]⟩
              · simp only [visT, visIn, visOut, visNo, hpn, hk2, hk1, if_true, if_false] at hcc
                refine callT_step (hcc) [6] [0, 3] (by simp) ?_
                simp [hk2, hk3, hk1]
                exact ⟨[0, 1], by simp [visOut, visNo, hpf, hk2, hk1]⟩
          · obtain ⟨hp3, hp4⟩ := hp2 hc1 hc2
            have hRe := hR3 hc1 hc2
            subst hRe
            simp
            refine drawE_of [(8, [0]), (9, []), (10, []), (11, [])] (by kernel_rfl) ?_
            simp
            refine call_step (iNegs_con dec (by omega) hdb) ?_
            simp
            first | refine app_lit (q := 1) vt_el_40 (by exact rfl) (by simp) (by exact rfl) (by exact rfl) (by simp) (by simp) (by first | (simp; done) | (simp; omega)) ?_ | refine app_row vt_el_40 (by exact rfl) (by simp) (by exact rfl) (by simp) (by first | (simp; done) | (simp; omega)) ?_
            simp
            exact ⟨[0, 1, 6], by simp [visOut, visOk, hpf, enRow, e1]⟩
--@@end step
end Go.Proofs.Ytoppcdccplgalaa
