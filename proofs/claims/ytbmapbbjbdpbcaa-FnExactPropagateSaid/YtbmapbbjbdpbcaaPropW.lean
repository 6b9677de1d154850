/-
  Contracts of the functions of unit propagation, the program's and the reference's.
  Conditions: those typed in each theorem.
-/
import Derived.Test.YtbmapbbjbdpbcaaProp
import Derived.Test.YtbmapbbjbdpbcaaCnf2
import Derived.Test.YtbmapbbjbdpbcaaPush2
import Derived.Deep.LoopGhost
namespace Go.Proofs.Ytbmapbbjbdpbcaa
open Go.RowKit Go.ChangeShapes Go.WideShapes

/-- The cell of an element of a clause. -/
theorem lit_cell {w : World} {B : Nat} {A : Option Addr} {p : List Int} (h : SlR intT w B A p) {l : Int} (hl : litIn p.length l) :
    (0 < l → ∃ (m : Nat) (b o : Nat), l = (m : Int) + 1 ∧ m < p.length ∧ A = some ⟨b, o, none⟩ ∧ w.cell? ⟨b, o + m, none⟩ = some (.int .i64 (valOf p l)) ∧ p[m]? = some (valOf p l)) ∧
    (l < 0 → ∃ (m : Nat) (b o : Nat) (x : Int), l = -((m : Int) + 1) ∧ m < p.length ∧ A = some ⟨b, o, none⟩ ∧ w.cell? ⟨b, o + m, none⟩ = some (.int .i64 x) ∧ valOf p l = -x ∧ p[m]? = some x) := by
  obtain ⟨h0, h1, h2⟩ := hl
  constructor
  · intro hp
    have hm : (l - 1).toNat < p.length := by omega
    obtain ⟨b, o, x, e, -, hx, hc⟩ := h.int_at hm
    have hv : valOf p l = x := by
      unfold valOf
      rw [if_neg (by omega), List.getD_eq_getElem?_getD, hx]
      rfl
    exact ⟨(l - 1).toNat, b, o, by omega, hm, e, by rw [hv]; exact hc, by rw [hv]; exact hx⟩
  · intro hn
    have hm : (-l - 1).toNat < p.length := by omega
    obtain ⟨b, o, x, e, -, hx, hc⟩ := h.int_at hm
    have hv : valOf p l = -x := by
      unfold valOf
      rw [if_pos hn, List.getD_eq_getElem?_getD, hx]
      rfl
    exact ⟨(-l - 1).toNat, b, o, x, by omega, hm, e, hc, hv, hx⟩
theorem valOf_trit {p : List Int} (h : trits p) {l : Int} (hl : litIn p.length l) : -1 ≤ valOf p l ∧ valOf p l ≤ 1 := by
  obtain ⟨h0, h1, h2⟩ := hl
  unfold valOf
  split
  · have hm : (-l - 1).toNat < p.length := by omega
    rw [getD_at hm]
    have := h _ (List.getElem_mem hm)
    omega
  · have hm : (l - 1).toNat < p.length := by omega
    rw [getD_at hm]
    exact h _ (List.getElem_mem hm)

theorem ivalue_any (A : Option Addr) (c : Nat) (p : List Int) (l : Int) (w : World) (hx : SlR intT w w.heap.size A p) (hp : trits p) (hl : litIn p.length l) :
    Calls Try.prog 71 #[.slice A p.length c, .int .i64 l] w fun e w' => e = .returned (.int .i64 (valOf p l)) ∧ w = w' := by
  have hm := hx.1
  obtain ⟨hpos, hneg⟩ := lit_cell hx hl
  have hne := hl.1
  clear hx
  by_cases h : 0 < l
  · obtain ⟨m, b, o, e1, hml, e2, hc, -⟩ := hpos h
    have hv := valOf_trit hp hl
    generalize valOf p l = y at *
    clear hpos hneg hl
    subst e1 e2
    have h' : 0 < (m : Int) + 1 := by omega
    clear h hne
    go_enter Try.func71, Try.ntmps71
    go_wp2
    go_ret
    exact ⟨rfl, rfl⟩
  · obtain ⟨m, b, o, x, e1, hml, e2, hc, hval, -⟩ := hneg (by omega)
    have hv := valOf_trit hp hl
    rw [hval] at hv ⊢
    clear hpos hneg hl hval
    subst e1 e2
    clear h hne
    go_enter Try.func71, Try.ntmps71
    go_wp2
    go_ret
    exact ⟨rfl, rfl⟩

theorem svalue_any (A : Option Addr) (c : Nat) (p : List Int) (l : Int) (w : World) (hx : SlR intT w w.heap.size A p) (hp : trits p) (hl : litIn p.length l) :
    Calls Try.prog 70 #[.slice A p.length c, .int .i64 l] w fun e w' => e = .returned (.int .i64 (valOf p l)) ∧ w = w' := by
  have hm := hx.1
  obtain ⟨hpos, hneg⟩ := lit_cell hx hl
  have hne := hl.1
  clear hx
  by_cases h : 0 < l
  · obtain ⟨m, b, o, e1, hml, e2, hc, -⟩ := hpos h
    have hv := valOf_trit hp hl
    generalize valOf p l = y at *
    clear hpos hneg hl
    subst e1 e2
    have h' : 0 < (m : Int) + 1 := by omega
    clear h hne
    go_enter Try.func70, Try.ntmps70
    go_wp2
    go_ret
    exact ⟨rfl, rfl⟩
  · obtain ⟨m, b, o, x, e1, hml, e2, hc, hval, -⟩ := hneg (by omega)
    have hv := valOf_trit hp hl
    rw [hval] at hv ⊢
    clear hpos hneg hl hval
    subst e1 e2
    clear h hne
    go_enter Try.func70, Try.ntmps70
    go_wp2
    go_ret
    exact ⟨rfl, rfl⟩

theorem iunit_any (A B : Option Addr) (c d : Nat) (cl p : List Int) (w : World) (hx : SlR intT w w.heap.size A cl) (hy : SlR intT w w.heap.size B p) (hp : trits p) (hl : ∀ l ∈ cl, litIn p.length l) :
    Calls Try.prog 73 #[.slice A cl.length c, .slice B p.length d] w fun e w' => e = .returned (.tuple #[.int .i64 (unitOf p cl).1, .bool (unitOf p cl).2]) ∧ w = w' := by
  have hm := hx.1
  have HX := Lib.hid hx
  have HY := Lib.hid hy
  have HP := Lib.hid hp
  have HL := Lib.hid hl
  clear hx hy hp hl
  go_enter Try.func73, Try.ntmps73
  go_wp2
  go_loop [6, 11] (fun q i => ∃ (k : Nat) (u : Int), k ≤ cl.length ∧ i = .int .i64 k ∧ q = .int .i64 u ∧ Hid (unitGo p (cl.drop k) u = unitOf p cl)) (fun _ i => cl.length - (intOf i).toNat)
  case atStart => exact ⟨0, 0, Nat.zero_le _, rfl, rfl, Lib.hid rfl⟩
  case round =>
    obtain ⟨k, u, hk, rfl, rfl, HU⟩ := hrel
    by_cases hlt : k < cl.length
    · obtain ⟨b1, o1, x, e1, -, hxk, hc1⟩ := HX.out.int_at hlt
      have hgo : unitGo p (cl.drop k) u = if valOf p x = 1 then (0, false) else if valOf p x = 0 then (if u ≠ 0 ∧ u ≠ x then (0, false) else unitGo p (cl.drop (k + 1)) x) else unitGo p (cl.drop (k + 1)) u := by
        obtain ⟨hk', rfl⟩ := List.getElem?_eq_some_iff.1 hxk
        rw [List.drop_eq_getElem_cons hk', unitGo]
      rw [HU.out] at hgo
      have hlx := HL.out x (List.mem_of_getElem? hxk)
      have HLX := Lib.hid hlx
      have hv := valOf_trit HP.out hlx
      have HG := Lib.hid hgo
      clear hxk hgo hlx
      subst e1
      go_wp2_with fail
      refine (ivalue_any _ _ p x _ HY.out HP.out HLX.out).mono ?_
      rintro e w1 ⟨rfl, rfl⟩
      generalize hvv : valOf p x = y at *
      clear hvv
      by_cases h1 : y = 1
      · subst h1
        go_wp2
        go_ret2
        have hg : unitOf p cl = (0, false) := by simpa using HG.out
        rw [hg]
        exact ⟨rfl, rfl⟩
      · by_cases h0 : y = 0
        · subst h0
          by_cases hu : u = 0
          · subst hu
            go_wp2
            refine ⟨⟨k + 1, x, by omega, by go_num, rfl, ?_⟩, by simp [intOf]; omega⟩
            have hg : unitOf p cl = unitGo p (cl.drop (k + 1)) x := by simpa using HG.out
            exact Lib.hid hg.symm
          · by_cases hux : u = x
            · subst hux
              have hu' : (u != 0) = true := by rw [bne_iff_ne]; exact hu
              go_wp2
              refine ⟨⟨k + 1, u, by omega, by go_num, rfl, ?_⟩, by simp [intOf]; omega⟩
              have hg : unitOf p cl = unitGo p (cl.drop (k + 1)) u := by simpa using HG.out
              exact Lib.hid hg.symm
            · have hu' : (u != 0) = true := by rw [bne_iff_ne]; exact hu
              have hux' : (u != x) = true := by rw [bne_iff_ne]; exact hux
              go_wp2
              go_ret2
              have hg : unitOf p cl = (0, false) := by simpa [hu, hux] using HG.out
              rw [hg]
              exact ⟨rfl, rfl⟩
        · have h1' : (y == 1) = false := beq_eq_false_iff_ne.2 h1
          have h0' : (y == 0) = false := beq_eq_false_iff_ne.2 h0
          go_wp2
          refine ⟨⟨k + 1, u, by omega, by go_num, rfl, ?_⟩, by simp [intOf]; omega⟩
          have hg : unitOf p cl = unitGo p (cl.drop (k + 1)) u := by simpa [h1, h0] using HG.out
          exact Lib.hid hg.symm
    · go_wp2
      go_ret2
      have h := HU.out
      rw [List.drop_of_length_le (by omega), unitGo] at h
      rw [← h]
      exact ⟨rfl, rfl⟩

theorem iunit_at (A B : Option Addr) (c d : Nat) (cl p : List Int) (w : World) (n : Nat) (u : Int) (cf : Bool) (hx : SlR intT w w.heap.size A cl) (hy : SlR intT w w.heap.size B p) (hp : trits p) (hl : ∀ l ∈ cl, litIn p.length l) (hn : p.length = n) (hu : unitOf p cl = (u, cf)) :
    Calls Try.prog 73 #[.slice A cl.length c, .slice B n d] w fun e w' => e = .returned (.tuple #[.int .i64 u, .bool cf]) ∧ w = w' := by
  have h := iunit_any A B c d cl p w hx hy hp hl
  rw [hu, hn] at h
  exact h

theorem copyInts_any (A : Option Addr) (c : Nat) (xs : List Int) (w : World) (hx : SlR intT w w.heap.size A xs) (hn : xs.length ≤ 1048576) :
    Calls Try.prog 72 #[.slice A xs.length c] w fun e w' => ∃ A' c' F, e = .returned (.slice A' xs.length c') ∧ SlO intT w' A' c' xs F ∧ F.Nodup ∧ (∀ g ∈ F, w.heap.size ≤ g) ∧ Below w.heap.size w w' := by
  have HX := Lib.hid hx
  clear hx
  go_enter Try.func72, Try.ntmps72
  go_wp2_with (at_builtin; refine wpList_pushAll rfl (.tmp 3) (.tmp 4) _ rfl inf_int (by omega) rfl rfl Try.underlying22 (some ⟨w.heap.size, 0, none⟩) 0 ([] : List Int) [w.heap.size] rfl (SlO.made0 intT w) (by simp) A xs c rfl (HX.out.below (below1 _ _)) (hands_int _ _) (by simp; omega) ?_; intro A2 c2 F2 w2 hso2 hnd2 hmem2 ho2; rw [List.nil_append] at hso2; have HSO2 := Lib.hid hso2; have HND2 := Lib.hid hnd2; have HM2 := Lib.hid hmem2; have HO2 := Lib.hid ho2; clear hso2 hnd2 hmem2 ho2)
  go_ret
  refine ⟨A2, c2, F2, rfl, HSO2.out, HND2.out, fun g hg => ?_, below_of_only (below1 _ _) (by simp) HO2.out (by simp)⟩
  rcases HM2.out g hg with h | h
  · simp at h; omega
  · simp at h; omega

/-- What propagation leaves: a list that the call owns, and whether there was no conflict. -/
def RetOpt (R : Option (List Int)) (w : World) (e : Ending) (w' : World) : Prop :=
  ∃ A' c' F, e = .returned (.tuple #[.slice A' (R.getD []).length c', .bool R.isSome]) ∧ SlO intT w' A' c' (R.getD []) F ∧ F.Nodup ∧ (∀ g ∈ F, w.heap.size ≤ g) ∧ Below w.heap.size w w'

theorem setLit_pos (q : List Int) (m : Nat) : setLit q ((m : Int) + 1) = q.set m 1 := by
  unfold setLit
  rw [if_pos (by omega)]
  congr 1
  omega
theorem setLit_neg (q : List Int) (m : Nat) : setLit q (-((m : Int) + 1)) = q.set m (-1) := by
  unfold setLit
  rw [if_neg (by omega), if_pos (by omega)]
  congr 1
  omega
theorem passL_at {cls : List (List Int)} {k : Nat} {x : List Int} (hx : cls[k]? = some x) (q : List Int) (b : Bool) :
    passL (cls.drop k) q b = if (unitOf q x).2 = true then none else if (unitOf q x).1 = 0 then passL (cls.drop (k + 1)) q b else passL (cls.drop (k + 1)) (setLit q (unitOf q x).1) true := by
  obtain ⟨hk, rfl⟩ := List.getElem?_eq_some_iff.1 hx
  rw [List.drop_eq_getElem_cons hk, passL]

set_option maxHeartbeats 1000000 in
theorem iprop_any (A B : Option Addr) (c d : Nat) (cls : List (List Int)) (p : List Int) (R : Option (List Int)) (w : World) (hx : RowsR w w.heap.size A cls) (hy : SlR intT w w.heap.size B p) (hp : trits p) (hl : clausesIn p.length cls) (hn : p.length ≤ 1048576) (hR : propL cls p = R) :
    Calls Try.prog 61 #[.slice A cls.length c, .slice B p.length d] w (RetOpt R w) := by
  have hm := hx.1
  have HX := Lib.hid hx
  have HY := Lib.hid hy
  have HP := Lib.hid hp
  have HL := Lib.hid hl
  have HR := Lib.hid hR
  clear hx hy hp hl hR
  go_enter Try.func61, Try.ntmps61
  go_wp2_with fail
  refine (copyInts_any _ _ p _ HY.out hn).mono ?_
  rintro e w0 ⟨A', c', F, rfl, hso, hnd, hge, hb0⟩
  have HSO0 := Lib.hid hso
  have HND := Lib.hid hnd
  have HGE := Lib.hid hge
  clear hso hnd hge
  go_wp2_with fail
  go_loopg [7] (zeros p + 2) (fun gk ch wr => ∃ (q : List Int) (b : Bool), ch = .bool b ∧ SlO intT wr A' c' q F ∧ Hid (q.length = p.length) ∧ Hid (trits q) ∧ Below w.heap.size w wr ∧ Hid ((b = true ∧ zeros q + 2 ≤ gk ∧ propL cls q = R) ∨ (b = false ∧ 1 ≤ gk ∧ R = some q)))
  case atStart => exact ⟨p, true, rfl, HSO0.out, Lib.hid rfl, HP, hb0, Lib.hid (.inl ⟨rfl, Nat.le_refl _, HR.out⟩)⟩
  case round =>
    obtain ⟨q, b, rfl, hso, HQL, HT, hb, HC⟩ := hrel
    have HSO := Lib.hid hso
    clear hso
    rcases HC.out with ⟨hbt, hz, hpr⟩ | ⟨hbf, hz, hpr⟩
    · have HZ := Lib.hid hz
      have HPR := Lib.hid hpr
      clear hz hpr HC
      subst hbt
      go_wp2_with fail
      go_loopw [7, 17] (fun ch i wr => ∃ (k : Nat) (q' : List Int) (b' : Bool), k ≤ cls.length ∧ i = .int .i64 k ∧ ch = .bool b' ∧ SlO intT wr A' c' q' F ∧ Hid (q'.length = p.length) ∧ Hid (trits q') ∧ Below w.heap.size w wr ∧ Hid (passL (cls.drop k) q' b' = passL cls q false)) (fun _ i _ => cls.length - (intOf i).toNat)
      case atStart => exact ⟨0, q, false, Nat.zero_le _, rfl, rfl, HSO.out, HQL, HT, hb, Lib.hid rfl⟩
      case round =>
        clear HSO hb
        obtain ⟨k, q', b', hk, rfl, rfl, hso, HQL', HT', hb, HPL⟩ := hrel
        have HSO := Lib.hid hso
        clear hso
        by_cases hlt : k < cls.length
        · obtain ⟨b1, o1, x, A1, c1, e1, hb1, hxk, hc1, hr1⟩ := (HX.out.below hb).sl_at hlt
          have hpl := passL_at hxk q' b'
          rw [HPL.out] at hpl
          have HXK := Lib.hid hxk
          have HR1 := Lib.hid hr1
          have HPP := Lib.hid hpl
          have hlits : ∀ l ∈ x, litIn q'.length l := by rw [HQL'.out]; exact HL.out x (List.mem_of_getElem? hxk)
          have HLI := Lib.hid hlits
          clear hxk hr1 hpl hlits
          subst e1
          go_wp2_with fail
          obtain ⟨u, cf, hu⟩ : ∃ u cf, unitOf q' x = (u, cf) := ⟨_, _, rfl⟩
          refine (iunit_at _ _ _ _ x q' _ p.length u cf (HR1.out.mono hb.size) HSO.out.rd HT'.out HLI.out HQL'.out hu).mono ?_
          rintro e w1 ⟨rfl, rfl⟩
          have hpp := HPP.out
          rw [hu] at hpp
          have hmem : u ≠ 0 → litIn q'.length u := fun h => by
            have := unitOf_mem (p := q') (cl := x) (by rw [hu]; exact h)
            rw [hu] at this
            exact HLI.out _ this.1
          have HPQ := Lib.hid hpp
          have HME := Lib.hid hmem
          clear hu hpp hmem HPP HPL
          cases cf with
          | true =>
            go_wp2
            go_ret2
            have hn : R = none := by
              rw [← HPR.out, propL_step (by rw [HQL.out]; exact HL.out) HT.out, HPQ.out]
              rfl
            subst hn
            exact ⟨none, 0, [], rfl, SlO.nil, List.nodup_nil, fun g hg => by simp at hg, hb⟩
          | false =>
            by_cases hu0 : u = 0
            · subst hu0
              go_wp2
              refine ⟨⟨k + 1, q', b', by omega, by go_num, rfl, HSO.out, HQL', HT', hb, ?_⟩, by simp [intOf]; omega⟩
              exact Lib.hid (by simpa using HPQ.out.symm)
            · have hlu := HME.out hu0
              by_cases hup : 0 < u
              · obtain ⟨m, rfl⟩ : ∃ m : Nat, u = (m : Int) + 1 := ⟨(u - 1).toNat, by omega⟩
                have hml : m < q'.length := by have := hlu.2.2; omega
                obtain ⟨g, Fs, e1, e2, hrow⟩ := HSO.out.at_ hml
                obtain ⟨u0, hu0'⟩ := hrow.slot (j := m) (by have := hrow.cap; show m < c' * 1; omega)
                have hfree := hrow.free m
                have hmp : m < p.length := by rw [← HQL'.out]; exact hml
                have HF := Lib.hid e2
                have HML := Lib.hid hml
                clear hrow e2 hlu hu0 hml
                subst e1
                go_wp2
                refine ⟨⟨k + 1, setLit q' ((m : Int) + 1), true, by omega, by go_num, rfl, ?_, ?_, ?_, ?_, ?_⟩, by simp [intOf]; omega⟩
                · rw [setLit_pos]
                  exact HSO.out.set_leaf intT_leaf rfl rfl HML.out (int_ow 1)
                · exact Lib.hid ((setLit_len _ _).trans HQL'.out)
                · exact Lib.hid (trits_setLit HT'.out _)
                · exact hb.setCell (by have := HGE.out g (by rw [HF.out]; simp); exact this) _
                · have h := HPQ.out
                  simp only [Bool.false_eq_true, if_false] at h
                  rw [if_neg (by omega)] at h
                  exact Lib.hid h.symm
              · obtain ⟨m, rfl⟩ : ∃ m : Nat, u = -((m : Int) + 1) := ⟨(-u - 1).toNat, by omega⟩
                have hml : m < q'.length := by have := hlu.2.1; omega
                obtain ⟨g, Fs, e1, e2, hrow⟩ := HSO.out.at_ hml
                obtain ⟨u0, hu0'⟩ := hrow.slot (j := m) (by have := hrow.cap; show m < c' * 1; omega)
                have hfree := hrow.free m
                have hmp : m < p.length := by rw [← HQL'.out]; exact hml
                have HF := Lib.hid e2
                have HML := Lib.hid hml
                clear hrow e2 hlu hu0 hml hup
                subst e1
                go_wp2
                refine ⟨⟨k + 1, setLit q' (-((m : Int) + 1)), true, by omega, by go_num, rfl, ?_, ?_, ?_, ?_, ?_⟩, by simp [intOf]; omega⟩
                · rw [setLit_neg]
                  exact HSO.out.set_leaf intT_leaf rfl rfl HML.out (int_ow (-1))
                · exact Lib.hid ((setLit_len _ _).trans HQL'.out)
                · exact Lib.hid (trits_setLit HT'.out _)
                · exact hb.setCell (by have := HGE.out g (by rw [HF.out]; simp); exact this) _
                · have h := HPQ.out
                  simp only [Bool.false_eq_true, if_false] at h
                  rw [if_neg (by omega)] at h
                  exact Lib.hid h.symm
        · go_wp2_with fail
          have hpl := HPL.out
          rw [List.drop_of_length_le (by omega), passL] at hpl
          have hst := propL_step (cls := cls) (p := q) (by rw [HQL.out]; exact HL.out) HT.out
          rw [← hpl, HPR.out] at hst
          obtain ⟨-, -, -, hzl, -⟩ := passL_facts (by rw [HQL.out]; exact HL.out) HT.out hpl.symm
          have hz := HZ.out
          cases b' with
          | true =>
            have hz2 := hzl rfl rfl
            go_roundg (zeros q' + 2)
            case measure => omega
            case rel => exact ⟨q', true, rfl, HSO.out, HQL', HT', hb, Lib.hid (.inl ⟨rfl, Nat.le_refl _, hst.symm⟩)⟩
          | false =>
            go_roundg 1
            case measure => omega
            case rel => exact ⟨q', false, rfl, HSO.out, HQL', HT', hb, Lib.hid (.inr ⟨rfl, Nat.le_refl _, hst⟩)⟩
    · have HPR := Lib.hid hpr
      clear hz hpr HC
      subst hbf
      go_wp2_with fail
      go_ret2
      have h := HPR.out
      subst h
      refine ⟨A', c', F, ?_, HSO.out, HND.out, HGE.out, hb⟩
      rw [← HQL.out]
      rfl

end Go.Proofs.Ytbmapbbjbdpbcaa
