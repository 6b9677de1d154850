/-
  Contracts of the laws' helpers over Cnf.
  Conditions: those typed in each theorem.
-/
import Derived.Test.YtbmapbbjbdpbcaaExB
namespace Go.Proofs.Ytbmapbbjbdpbcaa
open Go.RowKit Go.ChangeShapes Go.WideShapes

/-- After a callee that only made memory: the old cells read as they did. -/
theorem bcell {B : Nat} {w w1 : World} (hb : Below B w w1) : (∀ b o, b < B → w1.cell? ⟨b, o, none⟩ = w.cell? ⟨b, o, none⟩) ∧ (∀ b o, b < B → w1.frozen? ⟨b, o, none⟩ = w.frozen? ⟨b, o, none⟩) :=
  ⟨fun b o h => hb.cell (p := ⟨b, o, none⟩) h, fun b o h => hb.frozen (p := ⟨b, o, none⟩) h⟩
theorem below_new1 (w : World) (o : Obj) {B : Nat} (h : B ≤ w.heap.size) : Below B w (w.alloc o) := (Below.refl _ _).alloc h o
abbrev cnfV (v : Int) (A : Option Addr) (n c : Nat) : Value := .agg #[.int .i64 v, .slice A n c]

theorem szCnf_any (v : Int) (A : Option Addr) (c : Nat) (xs : List (List Int)) (l : Int) (w : World) (hx : RowsR w w.heap.size A xs) (hl : 0 ≤ l ∧ l ≤ 1048576) :
    Calls Try.prog 29 #[cnfV v A xs.length c, .int .i64 l] w fun e w' => ∃ r, e = .returned (.int .i64 r) ∧ Hid (r = -1 ∨ (0 ≤ r ∧ r + xs.length + total xs ≤ l)) ∧ Below w.heap.size w w' := by
  have HX := Lib.hid hx
  clear hx
  go_enter Try.func29, Try.ntmps29
  go_wp2_with fail
  refine (szIntSS_any _ _ xs l _ ((HX.out.below (below1 _ _)).mono (by simp)) hl).mono ?_
  rintro e w1 ⟨r, rfl, HR, hb⟩
  rcases HR.out with h1 | h1
  · have h1' : r < 0 := by omega
    go_wp2
    go_ret
    exact ⟨_, rfl, .inl rfl, (below1 _ _).trans (hb.mono (by simp))⟩
  · have h1' := h1.1
    go_wp2
    go_ret
    exact ⟨_, rfl, .inr h1, (below1 _ _).trans (hb.mono (by simp))⟩

theorem toCnf_any (v : Int) (A : Option Addr) (c : Nat) (xs : List (List Int)) (w : World) (hx : RowsR w w.heap.size A xs) (hn : xs.length ≤ 1048576) (ht : total xs ≤ 1048576) :
    Calls Try.prog 31 #[cnfV v A xs.length c] w fun e w' => ∃ A' F, e = .returned (cnfV v A' xs.length xs.length) ∧ RowsO w' A' xs.length xs F ∧ F.Nodup ∧ (∀ g ∈ F, w.heap.size ≤ g) ∧ Below w.heap.size w w' := by
  have HX := Lib.hid hx
  clear hx
  go_enter Try.func31, Try.ntmps31
  go_wp2_with fail
  refine (toIntSS_any _ _ xs _ ((HX.out.below ?_).mono ?_) hn ht).mono ?_
  · go_grown
  · go_size
  rintro e w1 ⟨A', F, rfl, hF, hFn, hFg, hb⟩
  have HF := Lib.hid hF
  have HFn := Lib.hid hFn
  have HFg := Lib.hid hFg
  clear hF hFn hFg
  obtain ⟨hc, hf⟩ := bcell hb
  have hr : Blk w1 (w.heap.size + 1) 37 #[.int .i64 0, .slice none 0 0] := Blk.below (by simp only [Blk, heap_alloc_get]; simp) hb (by simp)
  have HB := Lib.hid hr
  clear hr
  go_wp2
  refine ret_struct rfl rfl (((HB.out.far ?_ _).set_ 0 _).set_ 1 _) Try.underlying37 (by kernel_rfl) ⟨A', F, rfl, ?_⟩
  · simp
  have hF1 : ∀ g ∈ F, w.heap.size + 2 < g := fun g hg => by have := HFg.out g hg; simp at this; omega
  refine ⟨((HF.out.far ?_ _).far ?_ _).far ?_ _, HFn.out, fun g hg => by have := hF1 g hg; omega, ?_⟩
  · intro h
    have h2 := hF1 _ h
    dsimp only at h2
    omega
  · intro h
    have h2 := hF1 _ h
    dsimp only at h2
    omega
  · intro h
    have h2 := hF1 _ h
    dsimp only at h2
    omega
  · refine Below.setCell (Below.setCell (Below.setCell (Below.trans ?_ (hb.mono ?_)) ?_ _) ?_ _) ?_ _
    · go_grown
    · go_size
    · go_size
    · go_size
    · go_size

theorem eqCnf_same (v : Int) (A B : Option Addr) (c d : Nat) (xs : List (List Int)) (w : World) (hx : RowsR w w.heap.size A xs) (hy : RowsR w w.heap.size B xs) :
    Calls Try.prog 32 #[cnfV v A xs.length c, cnfV v B xs.length d] w fun e w' => e = .returned (.bool true) ∧ Below w.heap.size w w' := by
  have HX := Lib.hid hx
  have HY := Lib.hid hy
  clear hx hy
  have hs := same_self xs
  go_enter Try.func32, Try.ntmps32
  go_wp2_with fail
  refine (eqIntSS_any _ _ _ _ xs xs _ ((HX.out.below ?_).mono ?_) ((HY.out.below ?_).mono ?_)).mono ?_
  · go_grown
  · go_size
  · go_grown
  · go_size
  rintro e w1 ⟨rfl, hb⟩
  go_wp2
  go_ret
  refine ⟨rfl, Below.trans ?_ (hb.mono (by simp; omega))⟩
  go_grown

theorem markCnf_any (v : Int) (A : Option Addr) (c : Nat) (xs : List (List Int)) (F : List Nat) (k : Int) (w : World) (hx : RowsO w A c xs F) (hF : F.Nodup) (h0 : 0 ≤ k) (hk : k + total xs ≤ 1099511627776) :
    Calls Try.prog 38 #[cnfV v A xs.length c, .int .i64 k] w fun e w' => e = .returned (.int .i64 (k + total xs)) ∧ RowsO w' A c (mkRows k xs) F ∧ Only F w w' := by
  have HX := Lib.hid hx
  have HF := Lib.hid hF
  clear hx hF
  go_enter Try.func38, Try.ntmps38
  go_wp2_with fail
  refine (markIntSS_any _ _ xs F k _ (HX.out.after (below1 _ _)) HF.out h0 hk).mono ?_
  rintro e w1 ⟨rfl, h1, h2⟩
  go_wp2
  go_ret
  exact ⟨rfl, h1, (Only.of_below (below1 _ _)).trans (h2.mono fun q hq => .inl hq)⟩

end Go.Proofs.Ytbmapbbjbdpbcaa
