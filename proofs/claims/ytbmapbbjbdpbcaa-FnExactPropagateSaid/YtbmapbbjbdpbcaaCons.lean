/-
  Contracts of IsConsequence and Propagate, the program's and the reference's. Written by mk_cons.py.
  Conditions: those typed in each theorem.
-/
import Derived.Test.YtbmapbbjbdpbcaaPropS
namespace Go.Proofs.Ytbmapbbjbdpbcaa
open Go.RowKit Go.ChangeShapes Go.WideShapes

def negGo : List Int → List Int → Option (List Int)
  | [], p => some p
  | l :: ls, p => if valOf p l = 1 then none else negGo ls (setLit p (-l))
def followsL (v : Nat) (cls : List (List Int)) (cl : List Int) : Bool :=
  match negGo cl (List.replicate v 0) with
  | none => true
  | some p => !(propL cls p).isSome
def consL (v : Int) (cls : List (List Int)) (cl : List Int) : Bool := cnfOkL v cls && clauseOkL v cl && followsL v.toNat cls cl
def propagateL (v : Int) (cls : List (List Int)) (p : List Int) : Option (List Int) :=
  if cnfOkL v cls = true ∧ (p.length : Int) = v ∧ p.all (fun x => rng x (-1) 1) = true then propL cls p else none
theorem negGo_facts : ∀ {cl p q : List Int}, negGo cl p = some q → trits p → q.length = p.length ∧ trits q
  | [], p, q, h, ht => by
    simp only [negGo, Option.some.injEq] at h
    subst h
    exact ⟨rfl, ht⟩
  | l :: ls, p, q, h, ht => by
    unfold negGo at h
    split at h
    · cases h
    · obtain ⟨h1, h2⟩ := negGo_facts h (trits_setLit ht _)
      exact ⟨h1.trans (setLit_len _ _), h2⟩
theorem trits_rep (n : Nat) : trits (List.replicate n 0) := fun x hx => by rw [(List.mem_replicate.1 hx).2]; omega
theorem negGo_at {cl : List Int} {k : Nat} {x : Int} (hx : cl[k]? = some x) (p : List Int) : negGo (cl.drop k) p = if valOf p x = 1 then none else negGo (cl.drop (k + 1)) (setLit p (-x)) := by
  obtain ⟨hk, rfl⟩ := List.getElem?_eq_some_iff.1 hx
  rw [List.drop_eq_getElem_cons hk, negGo]
theorem setLit_n1 (q : List Int) (m : Nat) : setLit q (-((m : Int) + 1)) = q.set m (-1) := setLit_neg q m
theorem setLit_n2 (q : List Int) (m : Nat) : setLit q (- -((m : Int) + 1)) = q.set m 1 := by
  rw [Int.neg_neg]
  exact setLit_pos q m
/-- A made slice of zeros. -/
theorem SlO.makeN {α : Type} {T : Ty α} (h1 : T.size = 1) (w : World) (n : Nat) (hn : n ≤ 9223372036854775807) {z : Value} {x0 : α} (how : ∀ W, T.ow W [z] x0 []) :
    SlO T (w.alloc (.cells (madeCells #[z] n) T.id)) (some ⟨w.heap.size, 0, none⟩) n (List.replicate n x0) [w.heap.size] := by
  refine ⟨hn, .inr ⟨w.heap.size, List.replicate n [], rfl, by rw [flatten_rep], ⟨by simp, by simp, _, heap_alloc_new w _, by rw [h1, size_madeCells, Nat.mul_one], fun i x f hx hf => ?_⟩⟩⟩
  have hi : i < n := by have := (List.getElem?_eq_some_iff.1 hx).1; simpa using this
  rw [List.getElem?_replicate, if_pos hi] at hx hf
  obtain rfl := Option.some.inj hx
  obtain rfl := Option.some.inj hf
  have hu : (madeCells #[z] n).toList[i]? = some z := by rw [toList_madeCells_one, List.getElem?_replicate, if_pos hi]
  rw [h1, Nat.mul_one, take_one_at hu]
  exact how _
theorem iprop_at (A B : Option Addr) (c d n : Nat) (cls : List (List Int)) (p : List Int) (R : Option (List Int)) (w : World) (hx : RowsR w w.heap.size A cls) (hy : SlR intT w w.heap.size B p) (hp : trits p) (hl : clausesIn p.length cls) (hn : p.length = n) (hn2 : n ≤ 1048576) (hR : propL cls p = R) :
    Calls Try.prog 61 #[.slice A cls.length c, .slice B n d] w (RetOpt R w) := by
  subst hn
  exact iprop_any A B c d cls p R w hx hy hp hl hn2 hR
theorem sprop_at (A B : Option Addr) (c d n : Nat) (cls : List (List Int)) (p : List Int) (R : Option (List Int)) (w : World) (hx : RowsR w w.heap.size A cls) (hy : SlR intT w w.heap.size B p) (hp : trits p) (hl : clausesIn p.length cls) (hn : p.length = n) (hn2 : n ≤ 1048576) (hR : propL cls p = R) :
    Calls Try.prog 60 #[.slice A cls.length c, .slice B n d] w (RetOpt R w) := by
  subst hn
  exact sprop_any A B c d cls p R w hx hy hp hl hn2 hR
theorem ivalue_at (A : Option Addr) (c : Nat) (p : List Int) (n : Nat) (l : Int) (w : World) (hx : SlR intT w w.heap.size A p) (hp : trits p) (hl : litIn p.length l) (hn : p.length = n) :
    Calls Try.prog 71 #[.slice A n c, .int .i64 l] w fun e w' => e = .returned (.int .i64 (valOf p l)) ∧ w = w' := by
  subst hn
  exact ivalue_any A c p l w hx hp hl


set_option maxHeartbeats 1000000 in
theorem ifollows_any (v : Nat) (A B : Option Addr) (c d : Nat) (cls : List (List Int)) (cl : List Int) (w : World) (hx : RowsR w w.heap.size A cls) (hy : SlR intT w w.heap.size B cl) (hv : v ≤ 400) (hl : clausesIn v cls) (hcl : ∀ l ∈ cl, litIn v l) :
    Calls Try.prog 58 #[cnfV (v : Int) A cls.length c, .slice B cl.length d] w fun e w' => e = .returned (.bool (followsL v cls cl)) ∧ Below w.heap.size w w' := by
  have hm := hx.1
  have hmc := hy.1
  have HX := Lib.hid hx
  have HY := Lib.hid hy
  have HL := Lib.hid hl
  have HC := Lib.hid hcl
  clear hx hy hl hcl
  have hmk := makeIntS v (by omega)
  go_enter Try.func58, Try.ntmps58
  go_wp2
  clear hmk
  have hB0 : Below w.heap.size w ((w.alloc (.cells #[.int .i64 (v : Int), .slice A cls.length c] 37)).alloc (.cells (madeCells #[.int .i64 0] v) 3)) := by go_grown
  have hk1 : ∀ W, Below w.heap.size ((w.alloc (.cells #[.int .i64 (v : Int), .slice A cls.length c] 37)).alloc (.cells (madeCells #[.int .i64 0] v) 3)) W → True := fun _ _ => trivial
  have HK : Hid (Blk ((w.alloc (.cells #[.int .i64 (v : Int), .slice A cls.length c] 37)).alloc (.cells (madeCells #[.int .i64 0] v) 3)) w.heap.size 37 #[.int .i64 (v : Int), .slice A cls.length c]) := Lib.hid (by simp only [Blk, heap_alloc_get]; simp)
  have HM : Hid (SlO intT ((w.alloc (.cells #[.int .i64 (v : Int), .slice A cls.length c] 37)).alloc (.cells (madeCells #[.int .i64 0] v) 3)) (some ⟨w.heap.size + 1, 0, none⟩) v (List.replicate v 0) [w.heap.size + 1]) := Lib.hid (by
    have h : SlO intT ((w.alloc (.cells #[.int .i64 (v : Int), .slice A cls.length c] 37)).alloc (.cells (madeCells #[.int .i64 0] v) 3)) (some ⟨(w.alloc (.cells #[.int .i64 (v : Int), .slice A cls.length c] 37)).heap.size, 0, none⟩) v (List.replicate v 0) [(w.alloc (.cells #[.int .i64 (v : Int), .slice A cls.length c] 37)).heap.size] := SlO.makeN (T := intT) rfl (w.alloc (.cells #[.int .i64 (v : Int), .slice A cls.length c] 37)) v (by omega) (int_ow 0)
    simpa using h)
  generalize ((w.alloc (.cells #[.int .i64 (v : Int), .slice A cls.length c] 37)).alloc (.cells (madeCells #[.int .i64 0] v) 3)) = W0 at *
  clear hk1
  go_loopw [15] (fun i wr => ∃ (k : Nat) (p : List Int), k ≤ cl.length ∧ i = .int .i64 k ∧ SlO intT wr (some ⟨w.heap.size + 1, 0, none⟩) v p [w.heap.size + 1] ∧ Hid (p.length = v) ∧ Hid (trits p) ∧ Below w.heap.size w wr ∧ Hid (negGo (cl.drop k) p = negGo cl (List.replicate v 0)) ∧ Blk wr w.heap.size 37 #[.int .i64 (v : Int), .slice A cls.length c]) (fun i _ => cl.length - (intOf i).toNat)
  case atStart => exact ⟨0, _, Nat.zero_le _, rfl, HM.out, Lib.hid (by simp), Lib.hid (trits_rep _), hB0, Lib.hid rfl, HK.out⟩
  case round =>
    obtain ⟨k, p, hk0, rfl, hso, HPL, HT, hb, HN, hk⟩ := hrel
    have HSO := Lib.hid hso
    clear hso
    have HK2 := Lib.hid hk
    clear hk
    by_cases hlt : k < cl.length
    · obtain ⟨b1, o1, x, e1, -, hxk, hc1⟩ := (HY.out.below hb).int_at hlt
      have hng := negGo_at hxk p
      rw [HN.out] at hng
      have hlx : litIn p.length x := by rw [HPL.out]; exact HC.out x (List.mem_of_getElem? hxk)
      have HXK := Lib.hid hxk
      have HNG := Lib.hid hng
      have HLX := Lib.hid hlx
      clear hxk hng hlx
      subst e1
      go_wp2_with fail
      refine (ivalue_at _ _ p v x _ HSO.out.rd HT.out HLX.out HPL.out).mono ?_
      rintro e w1 ⟨rfl, rfl⟩
      by_cases h1 : valOf p x = 1
      · have hf : followsL v cls cl = true := by
          unfold followsL
          rw [HNG.out, if_pos h1]
        have HF := Lib.hid hf
        clear hf
        generalize valOf p x = y at *
        subst h1
        go_wp2
        go_ret
        exact ⟨ret_bool HF.out.symm, hb⟩
      · have h1' : (valOf p x == 1) = false := beq_eq_false_iff_ne.2 h1
        have HNX : Hid (negGo (cl.drop (k + 1)) (setLit p (-x)) = negGo cl (List.replicate v 0)) := Lib.hid (by rw [HNG.out, if_neg h1])
        have hlx := HLX.out
        generalize valOf p x = y at *
        clear h1
        by_cases hup : 0 < x
        · obtain ⟨m, rfl⟩ : ∃ m : Nat, x = (m : Int) + 1 := ⟨(x - 1).toNat, by omega⟩
          have hml : m < p.length := by have := hlx.2.2; omega
          obtain ⟨g, Fs, e1, e2, hrow⟩ := HSO.out.at_ hml
          have e1' : g = w.heap.size + 1 := by injection e1 with e1; injection e1 with e1; exact e1.symm
          subst e1'
          obtain ⟨u0, hu0'⟩ := hrow.slot (j := m) (by have := hrow.cap; show m < v * 1; omega)
          have hfree := hrow.free m
          have hmp : m < v := by rw [← HPL.out]; exact hml
          have HML := Lib.hid hml
          clear hrow e1 e2 hlx hml
          go_wp2
          refine ⟨⟨k + 1, setLit p (-((m : Int) + 1)), by omega, by go_num, ?_, ?_, ?_, ?_, HNX, HK2.out.far (by simp) _⟩, by simp [intOf]; omega⟩
          · rw [setLit_neg]
            exact HSO.out.set_leaf intT_leaf rfl rfl HML.out (int_ow (-1))
          · exact Lib.hid ((setLit_len _ _).trans HPL.out)
          · exact Lib.hid (trits_setLit HT.out _)
          · exact hb.setCell (by first | exact Nat.le_refl _ | (simp; done)) _
        · have hne := hlx.1
          obtain ⟨m, rfl⟩ : ∃ m : Nat, x = -((m : Int) + 1) := ⟨(-x - 1).toNat, by omega⟩
          have hml : m < p.length := by have := hlx.2.1; omega
          obtain ⟨g, Fs, e1, e2, hrow⟩ := HSO.out.at_ hml
          have e1' : g = w.heap.size + 1 := by injection e1 with e1; injection e1 with e1; exact e1.symm
          subst e1'
          obtain ⟨u0, hu0'⟩ := hrow.slot (j := m) (by have := hrow.cap; show m < v * 1; omega)
          have hfree := hrow.free m
          have hmp : m < v := by rw [← HPL.out]; exact hml
          have HML := Lib.hid hml
          clear hrow e1 e2 hlx hml hup hne
          go_wp2
          refine ⟨⟨k + 1, setLit p (- -((m : Int) + 1)), by omega, by go_num, ?_, ?_, ?_, ?_, HNX, HK2.out.far (by simp) _⟩, by simp [intOf]; omega⟩
          · rw [setLit_n2]
            exact HSO.out.set_leaf intT_leaf rfl rfl HML.out (int_ow 1)
          · exact Lib.hid ((setLit_len _ _).trans HPL.out)
          · exact Lib.hid (trits_setLit HT.out _)
          · exact hb.setCell (by first | exact Nat.le_refl _ | (simp; done)) _
    · have kc1 := HK2.out.cell 1
      go_wp2_with fail
      have hng := HN.out
      rw [List.drop_of_length_le (by omega), negGo] at hng
      have HF : Hid (followsL v cls cl = !(propL cls p).isSome) := Lib.hid (by unfold followsL; rw [← hng])
      refine (iprop_at _ _ _ _ v cls p (propL cls p) _ ((HX.out.below hb).mono hb.size) HSO.out.rd HT.out (by rw [HPL.out]; exact HL.out) HPL.out (by omega) rfl).mono ?_
      rintro e w1 ⟨A', c', F, rfl, -, -, -, hb1⟩
      go_wp2
      go_ret
      exact ⟨ret_bool (by rw [HF.out]; simp), hb.trans (hb1.mono hb.size)⟩


set_option maxHeartbeats 1000000 in
theorem sfollows_any (v : Nat) (A B : Option Addr) (c d : Nat) (cls : List (List Int)) (cl : List Int) (w : World) (hx : RowsR w w.heap.size A cls) (hy : SlR intT w w.heap.size B cl) (hv : v ≤ 400) (hl : clausesIn v cls) (hcl : ∀ l ∈ cl, litIn v l) :
    Calls Try.prog 57 #[.int .i64 (v : Int), .slice A cls.length c, .slice B cl.length d] w fun e w' => e = .returned (.bool (followsL v cls cl)) ∧ Below w.heap.size w w' := by
  have hm := hx.1
  have hmc := hy.1
  have HX := Lib.hid hx
  have HY := Lib.hid hy
  have HL := Lib.hid hl
  have HC := Lib.hid hcl
  clear hx hy hl hcl
  have hmk := makeIntS v (by omega)
  go_enter Try.func57, Try.ntmps57
  go_wp2
  clear hmk
  have hB0 : Below w.heap.size w (w.alloc (.cells (madeCells #[.int .i64 0] v) 3)) := below1 _ _
  have HM : Hid (SlO intT (w.alloc (.cells (madeCells #[.int .i64 0] v) 3)) (some ⟨w.heap.size, 0, none⟩) v (List.replicate v 0) [w.heap.size]) := Lib.hid (SlO.makeN (T := intT) rfl w v (by omega) (int_ow 0))
  generalize w.alloc (.cells (madeCells #[.int .i64 0] v) 3) = W0 at *
  go_loopw [8] (fun i wr => ∃ (k : Nat) (p : List Int), k ≤ cl.length ∧ i = .int .i64 k ∧ SlO intT wr (some ⟨w.heap.size, 0, none⟩) v p [w.heap.size] ∧ Hid (p.length = v) ∧ Hid (trits p) ∧ Below w.heap.size w wr ∧ Hid (negGo (cl.drop k) p = negGo cl (List.replicate v 0))) (fun i _ => cl.length - (intOf i).toNat)
  case atStart => exact ⟨0, _, Nat.zero_le _, rfl, HM.out, Lib.hid (by simp), Lib.hid (trits_rep _), hB0, Lib.hid rfl⟩
  case round =>
    obtain ⟨k, p, hk0, rfl, hso, HPL, HT, hb, HN⟩ := hrel
    have HSO := Lib.hid hso
    clear hso
    by_cases hlt : k < cl.length
    · obtain ⟨b1, o1, x, e1, -, hxk, hc1⟩ := (HY.out.below hb).int_at hlt
      have hng := negGo_at hxk p
      rw [HN.out] at hng
      have hlx : litIn p.length x := by rw [HPL.out]; exact HC.out x (List.mem_of_getElem? hxk)
      have HXK := Lib.hid hxk
      have HNG := Lib.hid hng
      have HLX := Lib.hid hlx
      clear hxk hng hlx
      subst e1
      go_wp2_with fail
      refine (svalue_at _ _ p v x _ HSO.out.rd HT.out HLX.out HPL.out).mono ?_
      rintro e w1 ⟨rfl, rfl⟩
      by_cases h1 : valOf p x = 1
      · have hf : followsL v cls cl = true := by
          unfold followsL
          rw [HNG.out, if_pos h1]
        have HF := Lib.hid hf
        clear hf
        generalize valOf p x = y at *
        subst h1
        go_wp2
        go_ret
        exact ⟨ret_bool HF.out.symm, hb⟩
      · have h1' : (valOf p x == 1) = false := beq_eq_false_iff_ne.2 h1
        have HNX : Hid (negGo (cl.drop (k + 1)) (setLit p (-x)) = negGo cl (List.replicate v 0)) := Lib.hid (by rw [HNG.out, if_neg h1])
        have hlx := HLX.out
        generalize valOf p x = y at *
        clear h1
        by_cases hup : 0 < x
        · obtain ⟨m, rfl⟩ : ∃ m : Nat, x = (m : Int) + 1 := ⟨(x - 1).toNat, by omega⟩
          have hml : m < p.length := by have := hlx.2.2; omega
          obtain ⟨g, Fs, e1, e2, hrow⟩ := HSO.out.at_ hml
          have e1' : g = w.heap.size := by injection e1 with e1; injection e1 with e1; exact e1.symm
          subst e1'
          obtain ⟨u0, hu0'⟩ := hrow.slot (j := m) (by have := hrow.cap; show m < v * 1; omega)
          have hfree := hrow.free m
          have hmp : m < v := by rw [← HPL.out]; exact hml
          have HML := Lib.hid hml
          clear hrow e1 e2 hlx hml
          go_wp2
          refine ⟨⟨k + 1, setLit p (-((m : Int) + 1)), by omega, by go_num, ?_, ?_, ?_, ?_, HNX⟩, by simp [intOf]; omega⟩
          · rw [setLit_neg]
            exact HSO.out.set_leaf intT_leaf rfl rfl HML.out (int_ow (-1))
          · exact Lib.hid ((setLit_len _ _).trans HPL.out)
          · exact Lib.hid (trits_setLit HT.out _)
          · exact hb.setCell (by first | exact Nat.le_refl _ | (simp; done)) _
        · have hne := hlx.1
          obtain ⟨m, rfl⟩ : ∃ m : Nat, x = -((m : Int) + 1) := ⟨(-x - 1).toNat, by omega⟩
          have hml : m < p.length := by have := hlx.2.1; omega
          obtain ⟨g, Fs, e1, e2, hrow⟩ := HSO.out.at_ hml
          have e1' : g = w.heap.size := by injection e1 with e1; injection e1 with e1; exact e1.symm
          subst e1'
          obtain ⟨u0, hu0'⟩ := hrow.slot (j := m) (by have := hrow.cap; show m < v * 1; omega)
          have hfree := hrow.free m
          have hmp : m < v := by rw [← HPL.out]; exact hml
          have HML := Lib.hid hml
          clear hrow e1 e2 hlx hml hup hne
          go_wp2
          refine ⟨⟨k + 1, setLit p (- -((m : Int) + 1)), by omega, by go_num, ?_, ?_, ?_, ?_, HNX⟩, by simp [intOf]; omega⟩
          · rw [setLit_n2]
            exact HSO.out.set_leaf intT_leaf rfl rfl HML.out (int_ow 1)
          · exact Lib.hid ((setLit_len _ _).trans HPL.out)
          · exact Lib.hid (trits_setLit HT.out _)
          · exact hb.setCell (by first | exact Nat.le_refl _ | (simp; done)) _
    · go_wp2_with fail
      have hng := HN.out
      rw [List.drop_of_length_le (by omega), negGo] at hng
      have HF : Hid (followsL v cls cl = !(propL cls p).isSome) := Lib.hid (by unfold followsL; rw [← hng])
      refine (sprop_at _ _ _ _ v cls p (propL cls p) _ ((HX.out.below hb).mono hb.size) HSO.out.rd HT.out (by rw [HPL.out]; exact HL.out) HPL.out (by omega) rfl).mono ?_
      rintro e w1 ⟨A', c', F, rfl, -, -, -, hb1⟩
      go_wp2
      go_ret
      exact ⟨ret_bool (by rw [HF.out]; simp), hb.trans (hb1.mono hb.size)⟩


theorem icons_any (v : Int) (A B : Option Addr) (c d : Nat) (cls : List (List Int)) (cl : List Int) (w : World) (hx : RowsR w w.heap.size A cls) (hy : SlR intT w w.heap.size B cl) :
    Calls Try.prog 35 #[cnfV v A cls.length c, .slice B cl.length d] w fun e w' => e = .returned (.bool (consL v cls cl)) ∧ Below w.heap.size w w' := by
  have HX := Lib.hid hx
  have HY := Lib.hid hy
  clear hx hy
  cases hr : cnfOkL v cls with
  | false =>
    have HF : Hid (consL v cls cl = false) := by show consL v cls cl = false; unfold consL; rw [hr]; rfl
    go_enter Try.func35, Try.ntmps35
    go_wp2_with fail
    refine (icnfOk_any v A c cls _ ((HX.out.below (below1 _ _)).mono (by simp))).mono ?_
    rintro e w1 ⟨rfl, hb1⟩
    go_wp2
    go_ret
    exact ⟨ret_bool HF.out.symm, (below1 _ _).trans (hb1.mono (by simp))⟩
  | true =>
    have hv := clauseOk_of_cnf hr
    obtain ⟨n, rfl⟩ : ∃ n : Nat, v = n := ⟨v.toNat, by omega⟩
    have HC := Lib.hid (cnfOk_clauses hr)
    have hn : n ≤ 400 := by omega
    go_enter Try.func35, Try.ntmps35
    go_wp2_with fail
    refine (icnfOk_any (n : Int) A c cls _ ((HX.out.below (below1 _ _)).mono (by simp))).mono ?_
    rintro e w1 ⟨rfl, hb1⟩
    obtain ⟨hcell, hfroz⟩ := bcell hb1
    have hz := hb1.size
    simp only [World.size_alloc] at hz
    have hbw : Below w.heap.size w w1 := (below1 _ _).trans (hb1.mono (by simp))
    go_wp2_with fail
    refine (iclauseOk_any (n : Int) _ _ cl _ ((HY.out.below hbw).mono (by omega)) hv).mono ?_
    rintro e w2 ⟨rfl, rfl⟩
    cases hcl : clauseOkL n cl with
    | false =>
      have HF : Hid (consL n cls cl = false) := by show consL n cls cl = false; unfold consL; rw [hr, hcl]; rfl
      go_wp2
      go_ret
      exact ⟨ret_bool HF.out.symm, hbw⟩
    | true =>
      have HF : Hid (consL n cls cl = followsL n cls cl) := by show consL n cls cl = _; unfold consL; rw [hr, hcl]; simp
      go_wp2_with fail
      refine (ifollows_any n _ _ _ _ cls cl _ ((HX.out.below hbw).mono (by omega)) ((HY.out.below hbw).mono (by omega)) hn HC.out (clauseOk_lits hcl)).mono ?_
      rintro e w3 ⟨rfl, hb3⟩
      go_wp2
      go_ret
      exact ⟨ret_bool (by rw [HF.out]), hbw.trans (hb3.mono (by omega))⟩


theorem scons_any (v : Int) (A B : Option Addr) (c d : Nat) (cls : List (List Int)) (cl : List Int) (w : World) (hx : RowsR w w.heap.size A cls) (hy : SlR intT w w.heap.size B cl) :
    Calls Try.prog 34 #[cnfV v A cls.length c, .slice B cl.length d] w fun e w' => e = .returned (.bool (consL v cls cl)) ∧ Below w.heap.size w w' := by
  have HX := Lib.hid hx
  have HY := Lib.hid hy
  clear hx hy
  cases hr : cnfOkL v cls with
  | false =>
    have HF : Hid (consL v cls cl = false) := by show consL v cls cl = false; unfold consL; rw [hr]; rfl
    go_enter Try.func34, Try.ntmps34
    go_wp2_with fail
    refine (scnfOk_any v A c cls _ ((HX.out.below (below1 _ _)).mono (by simp))).mono ?_
    rintro e w1 ⟨rfl, hb1⟩
    go_wp2
    go_ret
    exact ⟨ret_bool HF.out.symm, (below1 _ _).trans (hb1.mono (by simp))⟩
  | true =>
    have hv := clauseOk_of_cnf hr
    obtain ⟨n, rfl⟩ : ∃ n : Nat, v = n := ⟨v.toNat, by omega⟩
    have HC := Lib.hid (cnfOk_clauses hr)
    have hn : n ≤ 400 := by omega
    go_enter Try.func34, Try.ntmps34
    go_wp2_with fail
    refine (scnfOk_any (n : Int) A c cls _ ((HX.out.below (below1 _ _)).mono (by simp))).mono ?_
    rintro e w1 ⟨rfl, hb1⟩
    obtain ⟨hcell, hfroz⟩ := bcell hb1
    have hz := hb1.size
    simp only [World.size_alloc] at hz
    have hbw : Below w.heap.size w w1 := (below1 _ _).trans (hb1.mono (by simp))
    go_wp2_with fail
    refine (sclauseOk_any (n : Int) _ _ cl _ ((HY.out.below hbw).mono (by omega)) hv).mono ?_
    rintro e w2 ⟨rfl, rfl⟩
    cases hcl : clauseOkL n cl with
    | false =>
      have HF : Hid (consL n cls cl = false) := by show consL n cls cl = false; unfold consL; rw [hr, hcl]; rfl
      go_wp2
      go_ret
      exact ⟨ret_bool HF.out.symm, hbw⟩
    | true =>
      have HF : Hid (consL n cls cl = followsL n cls cl) := by show consL n cls cl = _; unfold consL; rw [hr, hcl]; simp
      go_wp2_with fail
      refine (sfollows_any n _ _ _ _ cls cl _ ((HX.out.below hbw).mono (by omega)) ((HY.out.below hbw).mono (by omega)) hn HC.out (clauseOk_lits hcl)).mono ?_
      rintro e w3 ⟨rfl, hb3⟩
      go_wp2
      go_ret
      exact ⟨ret_bool (by rw [HF.out]), hbw.trans (hb3.mono (by omega))⟩


end Go.Proofs.Ytbmapbbjbdpbcaa
