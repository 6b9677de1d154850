/-
  The values of a mapping's network of tables are those of its graph's nodes; so are its runs. Plain lemmas.
  Conditions: those typed in each theorem.
-/
import Derived.Test.YtklhofpjjbfckaaLg
import Derived.Test.YtklhofpjjbfckaaWm
import Derived.Test.YtklhofpjjbfckaaNy
namespace Go.Proofs.Ytklhofpjjbfckaa
open Go.RowKit Go.ChangeShapes Go.WideShapes
set_option linter.unusedVariables false
set_option linter.unusedSimpArgs false
theorem anK_stay {v0 : List Int} {f : Nat} {ns : List AndD} {q k : Nat} (hq : q < f + k) : ∀ d, atI (anK v0 f ns (k + d)) (q : Int) = atI (anK v0 f ns k) (q : Int)
  | 0 => rfl
  | d + 1 => by
    have ih := anK_stay (v0 := v0) (ns := ns) hq d
    rw [← ih]
    show atI ((anK v0 f ns (k + d)).set (f + (k + d)) _) (q : Int) = _
    unfold atI
    rw [Int.toNat_natCast, List.getElem?_set_ne (by omega)]
theorem luK_stay {v0 : List Int} {f : Nat} {ls : List LutD} {q k : Nat} (hq : q < f + k) : ∀ d, atI (luK v0 f ls (k + d)) (q : Int) = atI (luK v0 f ls k) (q : Int)
  | 0 => rfl
  | d + 1 => by
    have ih := luK_stay (v0 := v0) (ls := ls) hq d
    rw [← ih]
    show atI ((luK v0 f ls (k + d)).set (f + (k + d)) _) (q : Int) = _
    unfold atI
    rw [Int.toNat_natCast, List.getElem?_set_ne (by omega)]
theorem stK_stay {v0 : List Int} {f : Nat} {st : List Int} {q k : Nat} (hq : q < f + k) : ∀ d, atI (stK v0 f st (k + d)) (q : Int) = atI (stK v0 f st k) (q : Int)
  | 0 => rfl
  | d + 1 => by
    have ih := stK_stay (v0 := v0) (st := st) hq d
    rw [← ih]
    show atI ((stK v0 f st (k + d)).set (f + (k + d)) _) (q : Int) = _
    unfold atI
    rw [Int.toNat_natCast, List.getElem?_set_ne (by omega)]
theorem inK_two {N M : Nat} {i : Int} {F : Nat} (hN : F ≤ N) (hM : F ≤ M) : ∀ k, k < F → ∀ q : Nat, q < F → atI (inK N i k) q = atI (inK M i k) q
  | 0, _, q, hq => by
    unfold inK atI
    rw [Int.toNat_natCast, List.getElem?_replicate, List.getElem?_replicate, if_pos (by omega), if_pos (by omega)]
  | k + 1, hk, q, hq => by
    have ih := inK_two (i := i) hN hM k (by omega) q hq
    show atI ((inK N i k).set (1 + k) (bit i k)) q = atI ((inK M i k).set (1 + k) (bit i k)) q
    rw [atI_setn (by rw [inK_len]; omega), atI_setn (by rw [inK_len]; omega), ih]
theorem inK_zero {N : Nat} {i : Int} : ∀ k, atI (inK N i k) 0 = 0
  | 0 => by
    unfold inK atI
    rw [List.getElem?_replicate]
    split <;> rfl
  | k + 1 => by
    have ih := inK_zero (N := N) (i := i) k
    have e : atI ((inK N i k).set (1 + k) (bit i k)) 0 = atI (inK N i k) 0 := by
      show (((inK N i k).set (1 + k) (bit i k))[0]?).getD 0 = (((inK N i k))[0]?).getD 0
      rw [List.getElem?_set_ne (by omega)]
    exact e.trans ih
theorem stK_two {v0 w0 : List Int} {f F : Nat} {st : List Int} (hv : F ≤ v0.length) (hw : F ≤ w0.length) (h : ∀ q : Nat, q < F → atI v0 q = atI w0 q) : ∀ k, f + k ≤ F → ∀ q : Nat, q < F → atI (stK v0 f st k) q = atI (stK w0 f st k) q
  | 0, _, q, hq => h q hq
  | k + 1, hk, q, hq => by
    have ih := stK_two (f := f) (st := st) hv hw h k (by omega) q hq
    show atI ((stK v0 f st k).set (f + k) ((st[k]?).getD 0 % 2)) q = atI ((stK w0 f st k).set (f + k) ((st[k]?).getD 0 % 2)) q
    rw [atI_setn (by rw [stK_len]; omega), atI_setn (by rw [stK_len]; omega), ih]
section
variable {x : GrD} {st : List Int} {inp : Int}
theorem vals_low {v : Nat} (h : v < firstG x) : atI (valsL x st inp) v = atI (stV x st inp) v := by
  have := anK_stay (v0 := stV x st inp) (f := firstG x) (ns := x.2.2.1) (q := v) (k := 0) (by omega) x.2.2.1.length
  rw [Nat.zero_add] at this
  exact this
theorem vals_zero : atI (valsL x st inp) 0 = 0 := by
  have h0 : 0 < firstG x := by unfold firstG; omega
  have h1 := vals_low (x := x) (st := st) (inp := inp) h0
  have h2 := stK_stay (v0 := inV x inp) (f := 1 + x.1.toNat) (st := st) (q := 0) (k := 0) (by omega) st.length
  rw [Nat.zero_add] at h2
  have h3 : atI (stV x st inp) 0 = 0 := h2.trans (inK_zero _)
  exact h1.trans h3
theorem litL_congr {lv lv' : List Int} {l : Int} (h : atI lv (l / 2) = atI lv' (l / 2)) : litL lv l = litL lv' l := by unfold litL; rw [h]
theorem vals_and (hok : netOkB x = true) {v : Nat} (h1 : firstG x ≤ v) (h2 : v < grN x) : atI (valsL x st inp) v = litL (valsL x st inp) (andAt x v).1 * litL (valsL x st inp) (andAt x v).2 := by
  obtain ⟨a0, a1, a2, a3, a4, a5, a6⟩ := and_at hok h1 h2
  have hN := grN_eq x
  obtain ⟨i, rfl⟩ : ∃ i, v = firstG x + i := ⟨v - firstG x, by omega⟩
  rw [Nat.add_sub_cancel_left] at a0
  have hV : valsL x st inp = anK (stV x st inp) (firstG x) x.2.2.1 x.2.2.1.length := rfl
  have hi : i < x.2.2.1.length := by omega
  have s1 := anK_stay (v0 := stV x st inp) (f := firstG x) (ns := x.2.2.1) (q := firstG x + i) (k := i + 1) (by omega) (x.2.2.1.length - (i + 1))
  rw [show i + 1 + (x.2.2.1.length - (i + 1)) = x.2.2.1.length by omega] at s1
  have s2 : ∀ w, w < firstG x + i → atI (anK (stV x st inp) (firstG x) x.2.2.1 i) (w : Int) = atI (valsL x st inp) w := fun w hw => by
    have := anK_stay (v0 := stV x st inp) (f := firstG x) (ns := x.2.2.1) (q := w) (k := i) (by omega) (x.2.2.1.length - i)
    rw [show i + (x.2.2.1.length - i) = x.2.2.1.length by omega] at this
    exact this.symm
  rw [hV, s1]
  show atI ((anK (stV x st inp) (firstG x) x.2.2.1 i).set (firstG x + i) (litL (anK (stV x st inp) (firstG x) x.2.2.1 i) ((x.2.2.1[i]?).getD (0, 0)).1 * litL (anK (stV x st inp) (firstG x) x.2.2.1 i) ((x.2.2.1[i]?).getD (0, 0)).2)) ((firstG x + i : Nat) : Int) = _
  rw [atI_setn (by rw [anK_len, stV_len]; omega), if_pos rfl, a0, Option.getD_some, ← hV]
  rw [litL_congr (lv' := valsL x st inp) (by rw [a3]; exact s2 _ a5), litL_congr (l := (andAt x (firstG x + i)).2) (lv' := valsL x st inp) (by rw [a4]; exact s2 _ a6)]
theorem vals_bit {v : Int} : 0 ≤ atI (valsL x st inp) v ∧ atI (valsL x st inp) v ≤ 1 := atI_bit valsL_bits v
theorem va_vals {c : List Int} {i : Int} (hok : netOkB x = true) (hc : c.Nodup) (hb : ∀ (p k : Nat), c[p]? = some (k : Int) → bit i p = atI (valsL x st inp) k) : ∀ v : Nat, v < grN x → ¬ Leak (firstG x) (kidA x) (kidB x) c v → vaN x c i v = atI (valsL x st inp) v := fun v => by
  induction v using Nat.strongRecOn with
  | ind v ih =>
    intro hv hl
    by_cases hm : (v : Int) ∈ c
    · obtain ⟨p, hp, e⟩ := List.getElem_of_mem hm
      have hp' : c[p]? = some (v : Int) := by rw [List.getElem?_eq_getElem hp, e]
      rw [vaN_cut hv hc hp']
      exact hb p v hp'
    by_cases h0 : v = 0
    · subst h0
      rw [vaN_low hv hm (by unfold firstG; omega)]
      exact vals_zero.symm
    have ho : Opn c v := ⟨h0, hm⟩
    by_cases hf : v < firstG x
    · exact absurd ⟨v, .refl ho, hf⟩ hl
    have hf' : firstG x ≤ v := by omega
    obtain ⟨a0, a1, a2, a3, a4, a5, a6⟩ := and_at hok hf' hv
    have e1 := ih (kidA x v) a5 (by omega) (fun ⟨u, hu, hu'⟩ => hl ⟨u, .a ho hf' hu, hu'⟩)
    have e2 := ih (kidB x v) a6 (by omega) (fun ⟨u, hu, hu'⟩ => hl ⟨u, .b ho hf' hu, hu'⟩)
    rw [vaN_and hok hv hm hf', e1, e2, vals_and hok hf' hv]
    unfold litL
    rw [a3, a4]
theorem nodup_asc {xs : List Int} (h : ascB xs = true) : xs.Nodup := by
  have hs : ∀ k : Nat, k + 1 < xs.length → atI xs k < atI xs ((k : Int) + 1) := fun k hk => by
    have := List.all_eq_true.1 h k (List.mem_range.2 (by omega))
    simpa using this
  have hlt : ∀ d i : Nat, i + d + 1 < xs.length → atI xs i < atI xs ((i + d + 1 : Nat) : Int) := fun d => by
    induction d with
    | zero => intro i hi; have := hs i hi; exact this
    | succ d ih => intro i hi; have h1 := ih i (by omega); have h2 := hs (i + d + 1) (by omega); have e : (((i + d + 1 : Nat) : Int) + 1) = ((i + (d + 1) + 1 : Nat) : Int) := by omega
                   rw [e] at h2; omega
  refine List.pairwise_iff_getElem.2 fun i j hi hj hij he => ?_
  obtain ⟨d, rfl⟩ : ∃ d, j = i + d + 1 := ⟨j - i - 1, by omega⟩
  have h1 := hlt d i hj
  have e1 := atI_get (xs := xs) (k := i) (List.getElem?_eq_getElem hi)
  have e2 := atI_get (xs := xs) (k := i + d + 1) (List.getElem?_eq_getElem hj)
  omega
theorem cut_holds {cs : List RowD} (hm : mapOkB x cs = true) {p : Nat} {c : RowD} (hc : cs[p]? = some c) : c.Nodup ∧ ¬ Leak (firstG x) (kidA x) (kidB x) c (firstG x + p) := by
  obtain ⟨hok, hl, hcs⟩ := mapOk_of hm
  have hN := grN_eq x
  have hp := (List.getElem?_eq_some_iff.1 hc).1
  have h := (hcs p c hc).1
  unfold mapAtB cutOkB at h
  simp only [Bool.and_eq_true, Bool.not_eq_true'] at h
  obtain ⟨-, ⟨⟨-, h2⟩, -⟩, h4⟩ := h
  refine ⟨nodup_asc h2, fun hk => ?_⟩
  have := (esc_leak (F := firstG x) (N := grN x) (ka := kidA x) (kb := kidB x) (cut := c) (kids_lt hok) (v := firstG x + p) (by omega)).2 hk
  rw [this] at h4
  cases h4
theorem pack_nat {vs : List Int} (hb : bitsI vs) (h : vs.length ≤ 4) : ∃ p : Nat, packL vs = p ∧ p < 2 ^ vs.length ∧ p ≤ 60 := by
  have h1 := packK_lt hb vs.length
  have h2 := packW_le hb h
  obtain ⟨p, hp⟩ : ∃ p : Nat, packL vs = p := ⟨(packL vs).toNat, by omega⟩
  refine ⟨p, hp, ?_, by omega⟩
  have e : packK vs vs.length = p := hp
  rw [e] at h1
  have h3 := h1.2
  exact_mod_cast h3
theorem tb_val {cs : List RowD} (hm : mapOkB x cs = true) {p : Nat} {c : RowD} (hc : cs[p]? = some c) {lv ins : List Int} (hi : ins.map (atI lv) = c.map (atI (valsL x st inp))) :
    luF lv (ins, tbL x c (firstG x + p)) = atI (valsL x st inp) ((firstG x + p : Nat) : Int) ∧ luF lv (ins, tnL x c (firstG x + p)) = 1 - atI (valsL x st inp) ((firstG x + p : Nat) : Int) := by
  obtain ⟨hok, hl, hcs⟩ := mapOk_of hm
  obtain ⟨hn, hk⟩ := cut_holds hm hc
  obtain ⟨-, h4, hr⟩ := hcs p c hc
  have hN := grN_eq x
  have hp := (List.getElem?_eq_some_iff.1 hc).1
  have hv : firstG x + p < grN x := by omega
  have hbs : bitsI (c.map (atI (valsL x st inp))) := bitsI_map fun y _ => vals_bit
  obtain ⟨q, hq, hq2, hq3⟩ := pack_nat hbs (by simpa using h4)
  rw [List.length_map] at hq2
  have hva : vaN x c q (firstG x + p) = atI (valsL x st inp) ((firstG x + p : Nat) : Int) := va_vals hok hn (fun j k hj => by
    rw [← hq]
    have hj' := (List.getElem?_eq_some_iff.1 hj).1
    exact bit_pack hbs (by rw [List.getElem?_map, hj]; rfl) (by omega)) _ hv hk
  have ht := tvL_at (x := x) (c := c) (v := firstG x + p) hq2
  rw [hva] at ht
  have hb1 := tvL_bits (c := c) hv
  have hb2 : bitsI ((tvL x c (firstG x + p)).map fun b => 1 - b) := bitsI_map fun b hb => by have := hb1 b hb; omega
  constructor
  · show shr64 (tbL x c (firstG x + p)) (packL (ins.map (atI lv))) % 2 = _
    rw [hi, hq]
    exact bit_pack hb1 ht hq3
  · show shr64 (tnL x c (firstG x + p)) (packL (ins.map (atI lv))) % 2 = _
    rw [hi, hq]
    exact bit_pack hb2 (by rw [List.getElem?_map, ht]; rfl) hq3
variable {cs : List RowD}
theorem lu_first : 1 + (lutsOf x cs).1.toNat + (lutsOf x cs).2.1.length = firstG x := by
  show 1 + x.1.toNat + (x.2.1.map (sqP x cs)).length = _
  simp [firstG]
theorem lu_N : luN (lutsOf x cs) = firstG x + (ltN x cs (grN x)).length := by
  unfold luN
  rw [lu_first]
  rfl
theorem valsU_eq : valsU (lutsOf x cs) st inp = luK (stU (lutsOf x cs) st inp) (firstG x) (ltN x cs (grN x)) (ltN x cs (grN x)).length := by
  unfold valsU
  rw [lu_first]
  rfl
theorem luK_at {v0 : List Int} {f q : Nat} {ls : List LutD} {l : LutD} (hl : ls[q]? = some l) (hn : f + q < v0.length) (hin : ∀ y ∈ l.1, 0 ≤ y ∧ y < ((f + q : Nat) : Int)) :
    atI (luK v0 f ls ls.length) ((f + q : Nat) : Int) = luF (luK v0 f ls ls.length) l := by
  have hq := (List.getElem?_eq_some_iff.1 hl).1
  have h1 := luK_stay (v0 := v0) (f := f) (ls := ls) (q := f + q) (k := q + 1) (by omega) (ls.length - (q + 1))
  rw [show q + 1 + (ls.length - (q + 1)) = ls.length by omega] at h1
  rw [h1]
  show atI ((luK v0 f ls q).set (f + q) (luF (luK v0 f ls q) ((ls[q]?).getD ([], 0)))) _ = _
  rw [atI_setn (by rw [luK_len]; omega), if_pos rfl, hl, Option.getD_some]
  unfold luF
  congr 3
  refine List.map_congr_left fun y hy => ?_
  obtain ⟨y0, y1⟩ := hin y hy
  obtain ⟨v, rfl⟩ : ∃ v : Nat, y = v := ⟨y.toNat, by omega⟩
  have h3 := luK_stay (v0 := v0) (f := f) (ls := ls) (q := v) (k := q) (by omega) (ls.length - q)
  rw [show q + (ls.length - q) = ls.length by omega] at h3
  exact h3.symm
theorem u_low (hs : st.length = x.2.1.length) {v : Nat} (h : v < firstG x) : atI (valsU (lutsOf x cs) st inp) v = atI (valsL x st inp) v := by
  have h1 := luK_stay (v0 := stU (lutsOf x cs) st inp) (f := firstG x) (ls := ltN x cs (grN x)) (q := v) (k := 0) (by omega) (ltN x cs (grN x)).length
  rw [Nat.zero_add] at h1
  rw [valsU_eq, h1, vals_low h]
  have hN := grN_eq x
  have hM := lu_N (x := x) (cs := cs)
  exact stK_two (F := firstG x) (by rw [inK_len]; omega) (by rw [inK_len]; omega) (fun q hq => inK_two (F := firstG x) (by omega) (by omega) _ (by show x.1.toNat < firstG x; unfold firstG; omega) q hq) _ (by rw [hs]; show 1 + x.1.toNat + x.2.1.length ≤ firstG x; exact Nat.le_refl _) v h
theorem pl_val (hm : mapOkB x cs = true) (hs : st.length = x.2.1.length) : ∀ (v : Nat), v < grN x → (getB (posL x cs) v = true ∨ v < firstG x) → atI (valsU (lutsOf x cs) st inp) (plN (firstG x) (posL x cs) v) = atI (valsL x st inp) v := by
  intro v
  induction v using Nat.strongRecOn with
  | ind v ih =>
    intro hv hp
    obtain ⟨hok, hl, hcs⟩ := mapOk_of hm
    have hN := grN_eq x
    by_cases hf : v < firstG x
    · unfold plN
      rw [if_pos (by omega)]
      exact u_low hs hf
    · obtain ⟨i, rfl⟩ : ∃ i, v = firstG x + i := ⟨v - firstG x, by omega⟩
      have hp' : getB (posL x cs) (firstG x + i) = true := by rcases hp with h | h <;> first | exact h | omega
      have hi : i < cs.length := by omega
      obtain ⟨c, hc⟩ : ∃ c, cs[i]? = some c := ⟨_, List.getElem?_eq_getElem hi⟩
      have hg := ltN_pos hi hp' (grN x)
      have hlp : lutP x cs i = (c.map (plN (firstG x) (posL x cs)), tbL x c (firstG x + i)) := by unfold lutP; rw [hc]; rfl
      rw [hlp] at hg
      have hu : (getB (posL x cs) (firstG x + i) || getB (ngM x) (firstG x + i)) = true := by rw [hp']; rfl
      have hlow := pl_lt hm hc hu
      have h1 := luK_at (v0 := stU (lutsOf x cs) st inp) hg (by rw [stU_len, lu_N]; have := (List.getElem?_eq_some_iff.1 hg).1; omega) hlow
      rw [← valsU_eq] at h1
      have e : plN (firstG x) (posL x cs) ((firstG x + i : Nat) : Int) = ((firstG x + cnP (posL x cs) (firstG x) i : Nat) : Int) := by
        unfold plN
        rw [if_neg (by omega), Int.toNat_natCast, Nat.add_sub_cancel_left]
      rw [e, h1]
      refine (tb_val hm hc ?_).1
      rw [List.map_map]
      refine List.map_congr_left fun y hy => ?_
      obtain ⟨y0, y1⟩ := cut_below hm hc y hy
      obtain ⟨w, rfl⟩ : ∃ w : Nat, y = w := ⟨y.toNat, by omega⟩
      have hpy := pos_closed hm hc hu _ hy
      rw [Int.toNat_natCast] at hpy
      exact ih w (by omega) (by omega) (.inl hpy)
theorem rt_val (hm : mapOkB x cs = true) (hs : st.length = x.2.1.length) {y : Int} (hy : y ∈ grRoots x) : atI (valsU (lutsOf x cs) st inp) (rtP x cs y) = litL (valsL x st inp) y := by
  obtain ⟨hok, hl, hcs⟩ := mapOk_of hm
  have hN := grN_eq x
  have hr := rootsN_in hok y hy
  obtain ⟨k, hk⟩ : ∃ k : Nat, y / 2 = k := ⟨(y / 2).toNat, by omega⟩
  have hb := vals_bit (x := x) (st := st) (inp := inp) (v := k)
  unfold rtP litL
  rw [hk]
  split
  · rename_i he
    have hp := pos_root (cs := cs) hok hy he
    rw [hk, Int.toNat_natCast] at hp
    rw [pl_val hm hs k (by omega) (.inl hp), he]
    omega
  · rename_i he
    have hg := ng_root hok hy he
    rw [hk, Int.toNat_natCast] at hg
    have hkN : k < grN x := by omega
    rw [ngP_at hg (grN x) hkN (Nat.le_refl _)]
    have hget := ltN_get (cs := cs) hg hkN
    have hneg : ltNeg x cs k = if k = 0 then ([], 1) else if k < firstG x then ([(k : Int)], 1) else (((cs[k - firstG x]?).getD []).map (plN (firstG x) (posL x cs)), tnL x ((cs[k - firstG x]?).getD []) k) := rfl
    have hfit := (lut_fit hm hget).2
    have h1 := luK_at (v0 := stU (lutsOf x cs) st inp) hget (by rw [stU_len, lu_N]; have := (List.getElem?_eq_some_iff.1 hget).1; omega) hfit
    rw [← valsU_eq] at h1
    rw [h1]
    have goal : luF (valsU (lutsOf x cs) st inp) (ltNeg x cs k) = 1 - atI (valsL x st inp) k := by
      rw [hneg]
      by_cases h0 : k = 0
      · subst h0
        rw [if_pos rfl]
        have e0 : atI (valsL x st inp) ((0 : Nat) : Int) = 0 := vals_zero
        rw [e0]
        show shr64 1 (packL []) % 2 = 1 - 0
        decide
      rw [if_neg h0]
      by_cases hf : k < firstG x
      · rw [if_pos hf]
        show shr64 1 (packL [atI (valsU (lutsOf x cs) st inp) (k : Int)]) % 2 = _
        rw [u_low hs hf]
        rcases bit_cases hb with h | h <;> rw [h] <;> decide
      · rw [if_neg hf]
        obtain ⟨i, rfl⟩ : ∃ i, k = firstG x + i := ⟨k - firstG x, by omega⟩
        obtain ⟨c, hc⟩ : ∃ c, cs[i]? = some c := ⟨_, List.getElem?_eq_getElem (by omega)⟩
        rw [Nat.add_sub_cancel_left, hc, Option.getD_some]
        have hu : (getB (posL x cs) (firstG x + i) || getB (ngM x) (firstG x + i)) = true := by rw [hg, Bool.or_true]
        refine (tb_val hm hc ?_).2
        rw [List.map_map]
        refine List.map_congr_left fun z hz => ?_
        obtain ⟨z0, z1⟩ := cut_below hm hc z hz
        obtain ⟨w, rfl⟩ : ∃ w : Nat, z = w := ⟨z.toNat, by omega⟩
        have hpz := pos_closed hm hc hu _ hz
        rw [Int.toNat_natCast] at hpz
        exact pl_val hm hs w (by omega) (.inl hpz)
    rw [goal]
    omega
theorem step_eq (hm : mapOkB x cs = true) (hs : st.length = x.2.1.length) : stepU (lutsOf x cs) st inp = stepG x st inp := by
  have h1 : nxtU (lutsOf x cs) st (valsU (lutsOf x cs) st inp) = nxtG x st (valsL x st inp) := by
    show ((x.2.1.map (sqP x cs)).zip st).map (nxUF _) = (x.2.1.zip st).map (nxF _)
    rw [List.zip_map_left, List.map_map]
    refine List.map_congr_left fun p hp => ?_
    have hp1 := (List.of_mem_zip (show (p.1, p.2) ∈ x.2.1.zip st from hp)).1
    show seqNextL p.1.1 p.2 (packL (((p.1.2.2).map (rtP x cs)).map (atI _))) = seqNextL p.1.1 p.2 (packL (p.1.2.2.map (litL _)))
    rw [List.map_map]
    congr 2
    exact List.map_congr_left fun y hy => rt_val hm hs (root_seq hp1 hy)
  have h2 : outU (lutsOf x cs) (valsU (lutsOf x cs) st inp) = outG x (valsL x st inp) := by
    show packL ((x.2.2.2.map (rtP x cs)).map (atI _)) = packL (x.2.2.2.map (litL _))
    rw [List.map_map]
    congr 1
    exact List.map_congr_left fun y hy => rt_val hm hs (root_out hy)
  unfold stepU stepG
  rw [h1, h2]
end
def runStG (x : GrD) (ins : List Int) : Nat → List Int
  | 0 => startL x
  | k + 1 => (stepG x (runStG x ins k) ((ins[k]?).getD 0)).1
def runOutG (x : GrD) (ins : List Int) (k : Nat) : Int := (stepG x (runStG x ins k) ((ins[k]?).getD 0)).2
def runOutsG (x : GrD) (ins : List Int) (k : Nat) : List Int := (List.range k).map (runOutG x ins)
def netRunL (x : GrD) (ins : List Int) : List Int := if netOkB x = true ∧ ins.length ≤ 16 then runOutsG x ins ins.length else []
theorem runOutsG_snoc {x : GrD} {ins : List Int} {k : Nat} : runOutsG x ins (k + 1) = runOutsG x ins k ++ [runOutG x ins k] := by simp [runOutsG, List.range_succ]
theorem runOutsG_len {x : GrD} {ins : List Int} {k : Nat} : (runOutsG x ins k).length = k := by simp [runOutsG]
theorem nxtG_len {x : GrD} {st vals : List Int} (hl : st.length = x.2.1.length) : (nxtG x st vals).length = x.2.1.length := by simp [nxtG]; omega
theorem runStG_len {x : GrD} {ins : List Int} : ∀ k, (runStG x ins k).length = x.2.1.length
  | 0 => by simp [runStG, startL]
  | k + 1 => nxtG_len (runStG_len k)
theorem runs_eq {x : GrD} {cs : List RowD} (hm : mapOkB x cs = true) (ins : List Int) : ∀ k, runSt (lutsOf x cs) ins k = runStG x ins k
  | 0 => by
    show (x.2.1.map (sqP x cs)).map (·.2.1) = x.2.1.map (·.2.1)
    rw [List.map_map]
    rfl
  | k + 1 => by
    have ih := runs_eq hm ins k
    show (stepU (lutsOf x cs) (runSt (lutsOf x cs) ins k) _).1 = (stepG x (runStG x ins k) _).1
    rw [ih, step_eq hm (runStG_len k)]
theorem run_eq {x : GrD} {cs : List RowD} (hm : mapOkB x cs = true) (hok : lutNetOkB (lutsOf x cs) = true) (ins : List Int) : lutRunL (lutsOf x cs) ins = netRunL x ins := by
  have hn := (mapOk_of hm).1
  unfold lutRunL netRunL
  rw [hok, hn]
  split
  · unfold runOuts runOutsG
    refine List.map_congr_left fun k _ => ?_
    unfold runOut runOutG
    rw [runs_eq hm ins k, step_eq hm (runStG_len k)]
  · rfl
section
variable {x : GrD} {cs : List RowD}
theorem ltN_cntO : ∀ k, (ltN x cs k).length = cnP (posL x cs) (firstG x) cs.length + cnP (ngM x) 0 k
  | 0 => by
    show (ltP x cs cs.length).length = _
    rw [ltP_len]; rfl
  | k + 1 => by
    have ih := ltN_cntO k
    have e : cnP (ngM x) 0 (k + 1) = if getB (ngM x) (0 + k) = true then cnP (ngM x) 0 k + 1 else cnP (ngM x) 0 k := rfl
    rw [Nat.zero_add] at e
    rw [ltN_succ, e]
    split
    · rw [List.length_append, ih]; simp; omega
    · exact ih
theorem cnP_setO {s : List Bool} {t : Nat} (ht : t < s.length) : ∀ n, cnP (s.set t true) 0 n ≤ cnP s 0 n + (if t < n then 1 else 0)
  | 0 => Nat.zero_le _
  | n + 1 => by
    have ih := cnP_setO ht n
    have e1 : cnP (s.set t true) 0 (n + 1) = if getB (s.set t true) (0 + n) = true then cnP (s.set t true) 0 n + 1 else cnP (s.set t true) 0 n := rfl
    have e2 : cnP s 0 (n + 1) = if getB s (0 + n) = true then cnP s 0 n + 1 else cnP s 0 n := rfl
    rw [Nat.zero_add] at e1 e2
    rw [e1, e2, getB_set ht]
    generalize cnP (s.set t true) 0 n = A at *
    generalize cnP s 0 n = B at *
    by_cases e : n = t
    · have i1 : (if t < n then 1 else 0 : Nat) = 0 := if_neg (by omega)
      have i2 : (if t < n + 1 then 1 else 0 : Nat) = 1 := if_pos (by omega)
      rw [i1] at ih
      rw [i2, decide_eq_true e]
      cases getB s n
      · show A + 1 ≤ B + 1; omega
      · show A + 1 ≤ B + 1 + 1; omega
    · have i1 : (if t < n + 1 then 1 else 0 : Nat) = if t < n then 1 else 0 := by split <;> split <;> omega
      rw [i1, decide_eq_false e]
      generalize (if t < n then 1 else 0 : Nat) = C at *
      cases getB s n
      · show A ≤ B + C; omega
      · show A + 1 ≤ B + 1 + C; omega
theorem od_cntO {rs : List Int} {s : List Bool} (hr : ∀ y ∈ rs, (y / 2).toNat < s.length) (n : Nat) : ∀ j, j ≤ rs.length → cnP (odM rs s j) 0 n ≤ cnP s 0 n + j
  | 0, _ => Nat.le_refl _
  | j + 1, hj => by
    have ih := od_cntO hr n j (by omega)
    have hx : rs[j]? = some rs[j] := List.getElem?_eq_getElem (by omega)
    have hl := hr _ (List.getElem_mem (show j < rs.length by omega))
    have e3 : odM rs s (j + 1) = if rs[j] % 2 = 0 then odM rs s j else (odM rs s j).set (rs[j] / 2).toNat true := by
      show (if atI rs j % 2 = 0 then odM rs s j else (odM rs s j).set (atI rs j / 2).toNat true) = _
      rw [atI_get hx]
    rw [e3]
    split
    · omega
    · have := cnP_setO (s := odM rs s j) (t := (rs[j] / 2).toNat) (by rw [odM_len]; exact hl) n
      split at this <;> omega
theorem cnP_noneO {n m : Nat} : ∀ k, cnP (List.replicate n false) m k = 0
  | 0 => rfl
  | k + 1 => by
    have ih := cnP_noneO (n := n) (m := m) k
    show (if getB (List.replicate n false) (m + k) = true then _ else cnP (List.replicate n false) m k) = 0
    rw [if_neg (by unfold getB; rw [List.getElem?_replicate]; split <;> simp), ih]
theorem ltN_small (hm : mapOkB x cs = true) : (ltN x cs (grN x)).length ≤ 400 := by
  obtain ⟨hok, hl, hcs⟩ := mapOk_of hm
  have hri := rootsN_in hok
  have hrl := rootsN_len hok
  obtain ⟨⟨n1, n2, n3, n4, n5, n6⟩, -, -, -⟩ := netOk_of hok
  have h3 := ltN_cntO (x := x) (cs := cs) (grN x)
  have h1 := cnP_le (pos := posL x cs) (F := firstG x) cs.length
  have h5 := od_cntO (rs := grRoots x) (s := List.replicate (grN x) false) (fun y hy => by have := hri y hy; simp; omega) (grN x) (grRoots x).length (Nat.le_refl _)
  rw [cnP_noneO] at h5
  have h6 : ngM x = odM (grRoots x) (List.replicate (grN x) false) (grRoots x).length := rfl
  rw [← h6] at h5
  omega
end
end Go.Proofs.Ytklhofpjjbfckaa
