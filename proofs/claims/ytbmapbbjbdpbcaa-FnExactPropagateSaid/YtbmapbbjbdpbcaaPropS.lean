/-
  Contract of the reference's propagation.
  Conditions: those typed in each theorem.
-/
import Derived.Test.YtbmapbbjbdpbcaaPropW
namespace Go.Proofs.Ytbmapbbjbdpbcaa
open Go.RowKit Go.ChangeShapes Go.WideShapes

theorem svalue_at (A : Option Addr) (c : Nat) (p : List Int) (n : Nat) (l : Int) (w : World) (hx : SlR intT w w.heap.size A p) (hp : trits p) (hl : litIn p.length l) (hn : p.length = n) :
    Calls Try.prog 70 #[.slice A n c, .int .i64 l] w fun e w' => e = .returned (.int .i64 (valOf p l)) ∧ w = w' := by
  subst hn
  exact svalue_any A c p l w hx hp hl
set_option maxRecDepth 100000 in
set_option maxHeartbeats 2000000 in
theorem sprop_any (A B : Option Addr) (c d : Nat) (cls : List (List Int)) (p : List Int) (R : Option (List Int)) (w : World) (hx : RowsR w w.heap.size A cls) (hy : SlR intT w w.heap.size B p) (hp : trits p) (hl : clausesIn p.length cls) (hn : p.length ≤ 1048576) (hR : propL cls p = R) :
    Calls Try.prog 60 #[.slice A cls.length c, .slice B p.length d] w (RetOpt R w) := by
  have hm := hx.1
  have HX := Lib.hid hx
  have HY := Lib.hid hy
  have HP := Lib.hid hp
  have HL := Lib.hid hl
  have HR := Lib.hid hR
  clear hx hy hp hl hR
  go_enter Try.func60, Try.ntmps60
  go_wp2_with (at_builtin; refine wpList_pushAll rfl (.tmp 15) (.tmp 16) _ rfl inf_int (by omega) rfl rfl Try.underlying22 (some ⟨w.heap.size, 0, none⟩) 0 ([] : List Int) [w.heap.size] rfl (SlO.made0 intT w) (by simp) B p d rfl (HY.out.below (below1 _ _)) (hands_int _ _) (by simp; omega) ?_; intro A' c' F w0 hso2 hnd2 hmem2 ho2; rw [List.nil_append] at hso2; have HSO0 := Lib.hid hso2; have HND := Lib.hid hnd2; have HM2 := Lib.hid hmem2; have HO2 := Lib.hid ho2; clear hso2 hnd2 hmem2 ho2)
  have hb0 : Below w.heap.size w w0 := below_of_only (below1 _ _) (by simp) HO2.out (by simp)
  have HGE : Hid (∀ g ∈ F, w.heap.size ≤ g) := Lib.hid (fun g hg => by
    rcases HM2.out g hg with h | h
    · simp at h; omega
    · simp at h; omega)
  clear HM2 HO2
  go_loopg [7] (zeros p + 2) (fun gk ch wr => ∃ (q : List Int) (b : Bool), ch = .bool b ∧ SlO intT wr A' c' q F ∧ Hid (q.length = p.length) ∧ Hid (trits q) ∧ Below w.heap.size w wr ∧ Hid ((b = true ∧ zeros q + 2 ≤ gk ∧ propL cls q = R) ∨ (b = false ∧ 1 ≤ gk ∧ R = some q)))
  case atStart => exact ⟨p, true, rfl, HSO0.out, Lib.hid rfl, HP, hb0, Lib.hid (.inl ⟨rfl, Nat.le_refl _, HR.out⟩)⟩
  case round =>
    obtain ⟨q, b, rfl, hso, HQL, HT, hb, HC⟩ := hrel
    have HSO := Lib.hid hso
    clear hso
    rcases HC.out with ⟨hbt, hz, hpr⟩ | ⟨hbf, hz, hpr⟩
    · have HZ := Lib.hid hz
      have HPR := Lib.hid hpr
      clear hz hpr HC
      subst hbt
      go_wp2_with fail
      go_loopw [7, 8] (fun ch i wr => ∃ (k : Nat) (q' : List Int) (b' : Bool), k ≤ cls.length ∧ i = .int .i64 k ∧ ch = .bool b' ∧ SlO intT wr A' c' q' F ∧ Hid (q'.length = p.length) ∧ Hid (trits q') ∧ Below w.heap.size w wr ∧ Hid (passL (cls.drop k) q' b' = passL cls q false)) (fun _ i _ => cls.length - (intOf i).toNat)
      case atStart => exact ⟨0, q, false, Nat.zero_le _, rfl, rfl, HSO.out, HQL, HT, hb, Lib.hid rfl⟩
      case round =>
        clear HSO hb
        obtain ⟨k, q', b', hk, rfl, rfl, hso, HQL', HT', hb, HPL⟩ := hrel
        have HSO := Lib.hid hso
        clear hso
        by_cases hlt : k < cls.length
        · obtain ⟨b1, o1, x, A1, c1, e1, hb1, hxk, hc1, hr1⟩ := (HX.out.below hb).sl_at hlt
          have hpl := passL_at hxk q' b'
          rw [HPL.out] at hpl
          have hmx := hr1.1
          have HXK := Lib.hid hxk
          have HR1 := Lib.hid hr1
          have HPP := Lib.hid hpl
          have hlits : ∀ l ∈ x, litIn q'.length l := by rw [HQL'.out]; exact HL.out x (List.mem_of_getElem? hxk)
          have HLI := Lib.hid hlits
          clear hxk hr1 hpl hlits
          subst e1
          go_wp2_with fail
          go_loop [9, 10, 11, 12] (fun op sat many jj => ∃ (j : Nat) (u : Int) (bs bm : Bool), j ≤ x.length ∧ jj = .int .i64 j ∧ op = .int .i64 u ∧ sat = .bool bs ∧ many = .bool bm ∧ Hid ((bs = false ∧ bm = false ∧ unitGo q' (x.drop j) u = unitOf q' x) ∨ ((bs = true ∨ bm = true) ∧ unitOf q' x = (0, false)))) (fun _ _ _ jj => x.length - (intOf jj).toNat)
          case atStart => exact ⟨0, 0, false, false, Nat.zero_le _, rfl, rfl, rfl, rfl, Lib.hid (.inl ⟨rfl, rfl, rfl⟩)⟩
          case round =>
            obtain ⟨j, u, bs, bm, hj, rfl, rfl, rfl, rfl, HI⟩ := hrel
            rcases HI.out with ⟨h1, h2, h3⟩ | ⟨h1, h3⟩
            · subst h1 h2
              have HU := Lib.hid h3
              clear h3 HI
              by_cases hjl : j < x.length
              · obtain ⟨b2, o2, y, e2, -, hyk, hc2⟩ := HR1.out.int_at hjl
                have hgo : unitGo q' (x.drop j) u = if valOf q' y = 1 then (0, false) else if valOf q' y = 0 then (if u ≠ 0 ∧ u ≠ y then (0, false) else unitGo q' (x.drop (j + 1)) y) else unitGo q' (x.drop (j + 1)) u := by
                  obtain ⟨hk', rfl⟩ := List.getElem?_eq_some_iff.1 hyk
                  rw [List.drop_eq_getElem_cons hk', unitGo]
                rw [HU.out] at hgo
                have hly := HLI.out y (List.mem_of_getElem? hyk)
                have HLY := Lib.hid hly
                have hv := valOf_trit HT'.out hly
                have HG := Lib.hid hgo
                clear hyk hgo hly
                subst e2
                go_wp2_with fail
                refine (svalue_at _ _ q' p.length y _ HSO.out.rd HT'.out HLY.out HQL'.out).mono ?_
                rintro e w1 ⟨rfl, rfl⟩
                generalize hvv : valOf q' y = z at *
                clear hvv
                by_cases h1 : z = 1
                · subst h1
                  go_wp2
                  refine ⟨⟨j + 1, u, true, false, by omega, by go_num, rfl, rfl, rfl, ?_⟩, by simp [intOf]; omega⟩
                  have hg : unitOf q' x = (0, false) := by simpa using HG.out
                  exact Lib.hid (.inr ⟨.inl rfl, hg⟩)
                · by_cases h0 : z = 0
                  · subst h0
                    by_cases hu : u = 0
                    · subst hu
                      go_wp2
                      refine ⟨⟨j + 1, y, false, false, by omega, by go_num, rfl, rfl, rfl, ?_⟩, by simp [intOf]; omega⟩
                      have hg : unitOf q' x = unitGo q' (x.drop (j + 1)) y := by simpa using HG.out
                      exact Lib.hid (.inl ⟨rfl, rfl, hg.symm⟩)
                    · have hu' : (u != 0) = true := by rw [bne_iff_ne]; exact hu
                      by_cases hux : u = y
                      · subst hux
                        go_wp2
                        refine ⟨⟨j + 1, u, false, false, by omega, by go_num, rfl, rfl, rfl, ?_⟩, by simp [intOf]; omega⟩
                        have hg : unitOf q' x = unitGo q' (x.drop (j + 1)) u := by simpa using HG.out
                        exact Lib.hid (.inl ⟨rfl, rfl, hg.symm⟩)
                      · have hux' : (u != y) = true := by rw [bne_iff_ne]; exact hux
                        go_wp2
                        refine ⟨⟨j + 1, y, false, true, by omega, by go_num, rfl, rfl, rfl, ?_⟩, by simp [intOf]; omega⟩
                        have hg : unitOf q' x = (0, false) := by simpa [hu, hux] using HG.out
                        exact Lib.hid (.inr ⟨.inr rfl, hg⟩)
                  · have h1' : (z == 1) = false := beq_eq_false_iff_ne.2 h1
                    have h0' : (z == 0) = false := beq_eq_false_iff_ne.2 h0
                    go_wp2
                    refine ⟨⟨j + 1, u, false, false, by omega, by go_num, rfl, rfl, rfl, ?_⟩, by simp [intOf]; omega⟩
                    have hg : unitOf q' x = unitGo q' (x.drop (j + 1)) u := by simpa [h1, h0] using HG.out
                    exact Lib.hid (.inl ⟨rfl, rfl, hg.symm⟩)
              · have hun := HU.out
                rw [List.drop_of_length_le (by omega), unitGo] at hun
                have hpp := HPP.out
                rw [← hun] at hpp
                have hmem : u ≠ 0 → litIn q'.length u := fun h => by
                  have := unitOf_mem (p := q') (cl := x) (by rw [← hun]; exact h)
                  rw [← hun] at this
                  exact HLI.out _ this.1
                have HPQ := Lib.hid hpp
                have HME := Lib.hid hmem
                clear hun hpp hmem HPP HPL HU
                by_cases hu0 : u = 0
                · subst hu0
                  go_wp2
                  go_ret2
                  have hn : R = none := by
                    rw [← HPR.out, propL_step (by rw [HQL.out]; exact HL.out) HT.out, HPQ.out]
                    rfl
                  subst hn
                  exact ⟨some ⟨wr.heap.size, 0, none⟩, 0, [wr.heap.size], rfl, SlO.made0 _ _, by simp, by simpa using hb.size, hb.alloc hb.size _⟩
                · have hlu := HME.out hu0
                  have hu0b : (u == 0) = false := beq_eq_false_iff_ne.2 hu0
                  have HPT : Hid (passL cls q false = passL (cls.drop (k + 1)) (setLit q' u) true) := Lib.hid (by
                    have h := HPQ.out
                    simp only [hu0b, Bool.false_eq_true, if_false] at h
                    rw [if_neg hu0] at h
                    exact h)
                  by_cases hup : 0 < u
                  · obtain ⟨m, rfl⟩ : ∃ m : Nat, u = (m : Int) + 1 := ⟨(u - 1).toNat, by omega⟩
                    have hml : m < q'.length := by have := hlu.2.2; omega
                    obtain ⟨g, Fs, e1, e2, hrow⟩ := HSO.out.at_ hml
                    obtain ⟨u0, hu0'⟩ := hrow.slot (j := m) (by have := hrow.cap; show m < c' * 1; omega)
                    have hfree := hrow.free m
                    have hmp : m < p.length := by rw [← HQL'.out]; exact hml
                    have HF := Lib.hid e2
                    have HML := Lib.hid hml
                    clear hrow e2 hlu hu0 hml
                    subst e1
                    go_wp2
                    refine ⟨⟨k + 1, setLit q' ((m : Int) + 1), true, by omega, by go_num, rfl, ?_, ?_, ?_, ?_, ?_⟩, by simp [intOf]; omega⟩
                    · rw [setLit_pos]
                      exact HSO.out.set_leaf intT_leaf rfl rfl HML.out (int_ow 1)
                    · exact Lib.hid ((setLit_len _ _).trans HQL'.out)
                    · exact Lib.hid (trits_setLit HT'.out _)
                    · exact hb.setCell (by have := HGE.out g (by rw [HF.out]; simp); exact this) _
                    · exact Lib.hid HPT.out.symm
                  · obtain ⟨m, rfl⟩ : ∃ m : Nat, u = -((m : Int) + 1) := ⟨(-u - 1).toNat, by omega⟩
                    have hml : m < q'.length := by have := hlu.2.1; omega
                    obtain ⟨g, Fs, e1, e2, hrow⟩ := HSO.out.at_ hml
                    obtain ⟨u0, hu0'⟩ := hrow.slot (j := m) (by have := hrow.cap; show m < c' * 1; omega)
                    have hfree := hrow.free m
                    have hmp : m < p.length := by rw [← HQL'.out]; exact hml
                    have HF := Lib.hid e2
                    have HML := Lib.hid hml
                    clear hrow e2 hlu hu0 hml hup
                    subst e1
                    go_wp2
                    refine ⟨⟨k + 1, setLit q' (-((m : Int) + 1)), true, by omega, by go_num, rfl, ?_, ?_, ?_, ?_, ?_⟩, by simp [intOf]; omega⟩
                    · rw [setLit_neg]
                      exact HSO.out.set_leaf intT_leaf rfl rfl HML.out (int_ow (-1))
                    · exact Lib.hid ((setLit_len _ _).trans HQL'.out)
                    · exact Lib.hid (trits_setLit HT'.out _)
                    · exact hb.setCell (by have := HGE.out g (by rw [HF.out]; simp); exact this) _
                    · exact Lib.hid HPT.out.symm
            · have HU := Lib.hid h3
              have HPT : Hid (passL (cls.drop (k + 1)) q' b' = passL cls q false) := Lib.hid (by
                have h := HPP.out
                rw [h3] at h
                simpa using h.symm)
              clear h3 HI
              have done : (∃ (k_1 : Nat) (q'_1 : List Int) (b'_1 : Bool), k_1 ≤ cls.length ∧ Value.int .i64 ((k : Int) + 1) = .int .i64 (k_1 : Nat) ∧ Value.bool b' = .bool b'_1 ∧ SlO intT wr A' c' q'_1 F ∧ Hid (q'_1.length = p.length) ∧ Hid (trits q'_1) ∧ Below w.heap.size w wr ∧ Hid (passL (cls.drop k_1) q'_1 b'_1 = passL cls q false)) :=
                ⟨k + 1, q', b', by omega, by go_num, rfl, HSO.out, HQL', HT', hb, HPT⟩
              have DONE := Lib.hid done
              clear done
              cases bs with
              | true =>
                by_cases hjl : j < x.length
                · go_wp2
                  exact ⟨DONE.out, by simp [intOf]; omega⟩
                · go_wp2
                  exact ⟨DONE.out, by simp [intOf]; omega⟩
              | false =>
                have hbm : bm = true := by rcases h1 with h | h <;> first | exact h | cases h
                subst hbm
                by_cases hjl : j < x.length
                · go_wp2
                  exact ⟨DONE.out, by simp [intOf]; omega⟩
                · go_wp2
                  exact ⟨DONE.out, by simp [intOf]; omega⟩
        · go_wp2_with fail
          have hpl := HPL.out
          rw [List.drop_of_length_le (by omega), passL] at hpl
          have hst := propL_step (cls := cls) (p := q) (by rw [HQL.out]; exact HL.out) HT.out
          rw [← hpl, HPR.out] at hst
          obtain ⟨-, -, -, hzl, -⟩ := passL_facts (by rw [HQL.out]; exact HL.out) HT.out hpl.symm
          have hz := HZ.out
          cases b' with
          | true =>
            have hz2 := hzl rfl rfl
            go_roundg (zeros q' + 2)
            case measure => omega
            case rel => exact ⟨q', true, rfl, HSO.out, HQL', HT', hb, Lib.hid (.inl ⟨rfl, Nat.le_refl _, hst.symm⟩)⟩
          | false =>
            go_roundg 1
            case measure => omega
            case rel => exact ⟨q', false, rfl, HSO.out, HQL', HT', hb, Lib.hid (.inr ⟨rfl, Nat.le_refl _, hst⟩)⟩
    · have HPR := Lib.hid hpr
      clear hz hpr HC
      subst hbf
      go_wp2_with fail
      go_ret2
      have h := HPR.out
      subst h
      refine ⟨A', c', F, ?_, HSO.out, HND.out, HGE.out, hb⟩
      rw [← HQL.out]
      rfl

end Go.Proofs.Ytbmapbbjbdpbcaa
