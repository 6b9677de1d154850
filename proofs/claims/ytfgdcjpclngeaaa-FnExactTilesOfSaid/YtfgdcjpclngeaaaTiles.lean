/-
  Contracts of TilesOf.
  Conditions: those typed in each theorem.
-/
import Derived.Test.YtfgdcjpclngeaaaTile5
import Derived.Test.YtfgdcjpclngeaaaPush
namespace Go.Proofs.Ytfgdcjpclngeaaa
open Go.RowKit

def tlist (a b d k : Int) (n : Nat) : List Int := ((List.range n).map (fun i : Nat => (i : Int))).filter (fun t => tkind a b d t == k)
def tilesAll (a b c d k : Int) : List Int := if devOk a b c d = true then tlist a b d k (a * b).toNat else []
theorem tlist_yes {a b d k : Int} {n : Nat} (h : tkind a b d n = k) : tlist a b d k (n + 1) = tlist a b d k n ++ [(n : Int)] := by
  unfold tlist
  simp [List.range_succ, h]
theorem tlist_no {a b d k : Int} {n : Nat} (h : ¬tkind a b d n = k) : tlist a b d k (n + 1) = tlist a b d k n := by
  unfold tlist
  simp [List.range_succ, h]
theorem tlist_len (a b d k : Int) (n : Nat) : (tlist a b d k n).length ≤ n := by
  unfold tlist
  exact Nat.le_trans (List.length_filter_le _ _) (by simp)
theorem tilesAll_len (a b c d k : Int) : (tilesAll a b c d k).length ≤ 36 := by
  unfold tilesAll
  split
  · rename_i h
    obtain ⟨⟨ha, hb, hc⟩, hd⟩ := devOk_iff.1 h
    have := area_of ha hb
    exact Nat.le_trans (tlist_len _ _ _ _ _) (by omega)
  · simp

theorem below_of_only {B : Nat} {S : List Nat} {a b c : World} (h : Below B a b) (hB : B ≤ b.heap.size) (k : Only S b c) (hs : ∀ q ∈ S, B ≤ q) : Below B a c :=
  h.trans ⟨k.os, k.tape, k.output, k.size, fun i hi => k.block i (by omega) (fun hm => by have := hs i hm; omega)⟩

theorem iTiles_any (a b c d k : Int) (w : World) :
    Calls Try.prog 15 #[devV a b c d, .int .i64 k] w fun e w' => ∃ A' c' F, e = .returned (.slice A' (tilesAll a b c d k).length c') ∧ SlO intT w' A' c' (tilesAll a b c d k) F ∧ F.Nodup ∧ (∀ g ∈ F, w.heap.size ≤ g) ∧ Below w.heap.size w w' := by
  cases hd : devOk a b c d with
  | false =>
    have HF : Hid (tilesAll a b c d k = []) := Lib.hid (by unfold tilesAll; rw [hd]; rfl)
    go_enter Try.func15, Try.ntmps15
    go_wp2_with fail
    refine (idev_any _ _ _ _ _).mono ?_
    rintro e w1 ⟨rfl, hb1⟩
    rw [hd]
    go_wp2_with fail
    go_ret
    rw [HF.out]
    exact ⟨none, 0, [], rfl, SlO.nil, List.nodup_nil, fun g hg => by simp at hg, (below1 _ _).trans (hb1.mono (by simp))⟩
  | true =>
    obtain ⟨⟨ha, hb, hc⟩, hdd⟩ := devOk_iff.1 hd
    have hab := area_of ha hb
    have HQ : Hid (∀ t : Int, 0 ≤ t ∧ t ≤ a * b - 1 → ∀ w, Calls Try.prog 29 #[devV a b c d, .int .i64 t] w fun e w' => e = .returned (.int .i64 (tkind a b d t)) ∧ Below w.heap.size w w') := Lib.hid fun t ht w => itk_any a b c d t ha hb ht w
    have HF : Hid (tilesAll a b c d k = tlist a b d k (a * b).toNat) := Lib.hid (by unfold tilesAll; rw [hd, if_pos rfl])
    have hww : wrap64 (a * b) = a * b := by unfold wrap64; omega
    clear hdd
    go_enter Try.func15, Try.ntmps15
    go_wp2_with fail
    refine (idev_any _ _ _ _ _).mono ?_
    rintro e w1 ⟨rfl, hb1⟩
    rw [hd]
    clear hd
    obtain ⟨hcell, hfroz⟩ := bcell hb1
    have k0 : w1.cell? ⟨w.heap.size, 0, none⟩ = some (.int .i64 a) := by rw [hcell _ _ (by simp)]; simp
    have k1 : w1.cell? ⟨w.heap.size, 1, none⟩ = some (.int .i64 b) := by rw [hcell _ _ (by simp)]; simp
    have k2 : w1.cell? ⟨w.heap.size, 2, none⟩ = some (.int .i64 c) := by rw [hcell _ _ (by simp)]; simp
    have k3 : w1.cell? ⟨w.heap.size, 3, none⟩ = some (.int .i64 d) := by rw [hcell _ _ (by simp)]; simp
    have hz1 : w.heap.size < w1.heap.size := by have := hb1.size; simp at this; omega
    have HB : Hid (Below w.heap.size w w1) := Lib.hid ((below1 _ _).trans (hb1.mono (by simp)))
    have HK : Hid (Blk w1 w.heap.size 25 #[.int .i64 a, .int .i64 b, .int .i64 c, .int .i64 d]) := Lib.hid ((Blk.new _ _ _).below hb1 (by simp))
    go_wp2_with fail
    clear hcell hfroz hb1 k0 k1 k2 k3 hz1
    go_loopw [5, 6] (fun u i wr => ∃ (n : Nat) (A' : Option Addr) (c' : Nat) (ys : List Int) (F : List Nat), (n : Int) ≤ a * b ∧ i = .int .i64 n ∧ u = .slice A' ys.length c' ∧ SlO intT wr A' c' ys F ∧ F.Nodup ∧ (∀ g ∈ F, w.heap.size + 1 ≤ g) ∧ Below w.heap.size w wr ∧ Hid (ys = tlist a b d k n) ∧ Hid (Blk wr w.heap.size 25 #[.int .i64 a, .int .i64 b, .int .i64 c, .int .i64 d])) (fun _ i _ => (a * b).toNat - (intOf i).toNat)
    case atStart => exact ⟨0, none, 0, [], [], by omega, rfl, rfl, SlO.nil, List.nodup_nil, fun g hg => by simp at hg, HB.out, Lib.hid rfl, HK⟩
    case round =>
      obtain ⟨n, A', c', ys, F, hn, rfl, rfl, hso, hnd, hge, hb, HYS, HK2⟩ := hrel
      have HSO := Lib.hid hso
      have HND := Lib.hid hnd
      have HGE := Lib.hid hge
      have hyl : ys.length ≤ n := by rw [HYS.out]; exact tlist_len _ _ _ _ _
      have hn36 : n ≤ 36 := by omega
      clear hso hnd hge
      have k0 := HK2.out.cell 0
      have k1 := HK2.out.cell 1
      have k2 := HK2.out.cell 2
      have k3 := HK2.out.cell 3
      simp at k0 k1 k2 k3
      by_cases hlt : (n : Int) < a * b
      · go_wp2_with fail
        refine (HQ.out n (by omega) _).mono ?_
        rintro e w2 ⟨rfl, hb2⟩
        have hbw := hb.trans (hb2.mono hb.size)
        replace HSO := Lib.hid (HSO.out.after hb2)
        replace HK2 := Lib.hid (HK2.out.below hb2 HK2.out.lt)
        have hz2 := hbw.size
        clear hb hb2 k0 k1 k2 k3
        by_cases hk : tkind a b d n = k
        · have HT := Lib.hid (tlist_yes hk)
          have HL : Hid (ys.length < 1099511627776) := Lib.hid (by omega)
          go_wp2_with (at_builtin; refine wpList_push1 rfl (.tmp 24) (.tmp 26) _ rfl inf_int (by omega) rfl Try.underlying30 A' c' ys F rfl w2 (.int .i64 n) _ rfl HSO.out HND.out rfl (n : Int) [] ⟨rfl, rfl⟩ List.nodup_nil (by simp) HL.out ?_; intro A2 c2 F2 w3 hso2 hnd2 hmem2 ho2; have HSO2 := Lib.hid hso2; have HND2 := Lib.hid hnd2; have HM2 := Lib.hid hmem2; have HO2 := Lib.hid ho2; clear hso2 hnd2 hmem2 ho2)
          refine ⟨⟨n + 1, A2, c2, ys ++ [(n : Int)], F2, by omega, by go_num, by simp, HSO2.out, HND2.out, fun g hg => ?_, below_of_only hbw hbw.size HO2.out (fun g hg => by have := HGE.out g hg; omega), ?_, Lib.hid (HK2.out.only HO2.out (fun hq => by have := HGE.out _ hq; omega))⟩, by simp [intOf]; omega⟩
          · rcases HM2.out g hg with h | h | h
            · exact HGE.out g h
            · simp at h
            · have := HK2.out.lt
              omega
          · exact Lib.hid (by rw [HT.out, HYS.out])
        · have HT := Lib.hid (tlist_no hk)
          go_wp2_with fail
          refine ⟨⟨n + 1, A', c', ys, F, by omega, by go_num, rfl, HSO.out, HND.out, HGE.out, hbw, ?_, HK2⟩, by simp [intOf]; omega⟩
          exact Lib.hid (by rw [HT.out, HYS.out])
      · go_wp2_with fail
        go_ret
        have hkk : n = (a * b).toNat := by omega
        have h := HYS.out
        rw [hkk] at h
        subst h
        rw [HF.out]
        first | exact ⟨A', c', F, rfl, HSO.out, HND.out, fun g hg => by have := HGE.out g hg; omega, hb⟩ | exact ⟨A', c', rfl, F, HSO.out, HND.out, fun g hg => by have := HGE.out g hg; omega, hb⟩

theorem sTiles_any (a b c d k : Int) (w : World) :
    Calls Try.prog 14 #[devV a b c d, .int .i64 k] w fun e w' => ∃ A' c' F, e = .returned (.slice A' (tilesAll a b c d k).length c') ∧ SlO intT w' A' c' (tilesAll a b c d k) F ∧ F.Nodup ∧ (∀ g ∈ F, w.heap.size ≤ g) ∧ Below w.heap.size w w' := by
  have HS0 : Hid (SlO intT ((w.alloc (.cells #[.int .i64 a, .int .i64 b, .int .i64 c, .int .i64 d] 25)).alloc (.cells #[] 3)) (some ⟨w.heap.size + 1, 0, none⟩) 0 ([] : List Int) [w.heap.size + 1]) := Lib.hid (by
    have h := SlO.made0 intT (w.alloc (.cells #[.int .i64 a, .int .i64 b, .int .i64 c, .int .i64 d] 25))
    simp only [World.size_alloc] at h
    exact h)
  have HB0 : Hid (Below w.heap.size w ((w.alloc (.cells #[.int .i64 a, .int .i64 b, .int .i64 c, .int .i64 d] 25)).alloc (.cells #[] 3))) := Lib.hid ((below1 _ _).alloc (by simp) _)
  have HK0 : Hid (Blk ((w.alloc (.cells #[.int .i64 a, .int .i64 b, .int .i64 c, .int .i64 d] 25)).alloc (.cells #[] 3)) w.heap.size 25 #[.int .i64 a, .int .i64 b, .int .i64 c, .int .i64 d]) := Lib.hid ((Blk.new _ _ _).alloc _)
  have HZ0 : Hid (((w.alloc (.cells #[.int .i64 a, .int .i64 b, .int .i64 c, .int .i64 d] 25)).alloc (.cells #[] 3)).heap.size = w.heap.size + 2) := Lib.hid (by simp)
  cases hd : devOk a b c d with
  | false =>
    have HF : Hid (tilesAll a b c d k = []) := Lib.hid (by unfold tilesAll; rw [hd]; rfl)
    go_enter Try.func14, Try.ntmps14
    go_wp2_with fail
    refine (sdev_any _ _ _ _ _).mono ?_
    rintro e w1 ⟨rfl, hb1⟩
    rw [hd]
    go_wp2_with fail
    go_ret
    rw [HF.out]
    have hz := HZ0.out
    first | exact ⟨_, _, [w.heap.size + 1], rfl, HS0.out.after hb1, by simp, by simp, HB0.out.trans (hb1.mono (by omega))⟩ | exact ⟨_, _, rfl, [w.heap.size + 1], HS0.out.after hb1, by simp, by simp, HB0.out.trans (hb1.mono (by omega))⟩
  | true =>
    obtain ⟨⟨ha, hb, hc⟩, hdd⟩ := devOk_iff.1 hd
    have hab := area_of ha hb
    have HQ : Hid (∀ t : Int, 0 ≤ t ∧ t ≤ a * b - 1 → ∀ w, Calls Try.prog 19 #[devV a b c d, .int .i64 t] w fun e w' => e = .returned (.int .i64 (tkind a b d t)) ∧ Below w.heap.size w w') := Lib.hid fun t ht w => by
      have h := sTk_any a b c d t w
      rw [tkAll_eq (show tileB a b c d t = true by unfold tileB; rw [hd, rng_iff.2 ht]; rfl)] at h
      exact h
    have HF : Hid (tilesAll a b c d k = tlist a b d k (a * b).toNat) := Lib.hid (by unfold tilesAll; rw [hd, if_pos rfl])
    have hww : wrap64 (a * b) = a * b := by unfold wrap64; omega
    clear hdd
    go_enter Try.func14, Try.ntmps14
    go_wp2_with fail
    refine (sdev_any _ _ _ _ _).mono ?_
    rintro e w1 ⟨rfl, hb1⟩
    rw [hd]
    clear hd
    have HS1 := Lib.hid (HS0.out.after hb1)
    have HK := Lib.hid (HK0.out.below hb1 HK0.out.lt)
    have HB : Hid (Below w.heap.size w w1) := Lib.hid (HB0.out.trans (hb1.mono (by have := HZ0.out; omega)))
    clear hb1 HS0 HK0 HZ0 HB0
    go_wp2_with fail
    go_loopw [5, 6] (fun u i wr => ∃ (n : Nat) (A' : Option Addr) (c' : Nat) (ys : List Int) (F : List Nat), (n : Int) ≤ a * b ∧ i = .int .i64 n ∧ u = .slice A' ys.length c' ∧ SlO intT wr A' c' ys F ∧ F.Nodup ∧ (∀ g ∈ F, w.heap.size + 1 ≤ g) ∧ Below w.heap.size w wr ∧ Hid (ys = tlist a b d k n) ∧ Hid (Blk wr w.heap.size 25 #[.int .i64 a, .int .i64 b, .int .i64 c, .int .i64 d])) (fun _ i _ => (a * b).toNat - (intOf i).toNat)
    case atStart => exact ⟨0, some ⟨w.heap.size + 1, 0, none⟩, 0, [], [w.heap.size + 1], by omega, rfl, rfl, HS1.out, by simp, by simp, HB.out, Lib.hid rfl, HK⟩
    case round =>
      obtain ⟨n, A', c', ys, F, hn, rfl, rfl, hso, hnd, hge, hb, HYS, HK2⟩ := hrel
      have HSO := Lib.hid hso
      have HND := Lib.hid hnd
      have HGE := Lib.hid hge
      have hyl : ys.length ≤ n := by rw [HYS.out]; exact tlist_len _ _ _ _ _
      have hn36 : n ≤ 36 := by omega
      clear hso hnd hge
      have k0 := HK2.out.cell 0
      have k1 := HK2.out.cell 1
      have k2 := HK2.out.cell 2
      have k3 := HK2.out.cell 3
      simp at k0 k1 k2 k3
      by_cases hlt : (n : Int) < a * b
      · go_wp2_with fail
        refine (HQ.out n (by omega) _).mono ?_
        rintro e w2 ⟨rfl, hb2⟩
        have hbw := hb.trans (hb2.mono hb.size)
        replace HSO := Lib.hid (HSO.out.after hb2)
        replace HK2 := Lib.hid (HK2.out.below hb2 HK2.out.lt)
        have hz2 := hbw.size
        clear hb hb2 k0 k1 k2 k3
        by_cases hk : tkind a b d n = k
        · have HT := Lib.hid (tlist_yes hk)
          have HL : Hid (ys.length < 1099511627776) := Lib.hid (by omega)
          go_wp2_with (at_builtin; refine wpList_push1 rfl (.tmp 26) (.tmp 28) _ rfl inf_int (by omega) rfl Try.underlying30 A' c' ys F rfl w2 (.int .i64 n) _ rfl HSO.out HND.out rfl (n : Int) [] ⟨rfl, rfl⟩ List.nodup_nil (by simp) HL.out ?_; intro A2 c2 F2 w3 hso2 hnd2 hmem2 ho2; have HSO2 := Lib.hid hso2; have HND2 := Lib.hid hnd2; have HM2 := Lib.hid hmem2; have HO2 := Lib.hid ho2; clear hso2 hnd2 hmem2 ho2)
          refine ⟨⟨n + 1, A2, c2, ys ++ [(n : Int)], F2, by omega, by go_num, by simp, HSO2.out, HND2.out, fun g hg => ?_, below_of_only hbw hbw.size HO2.out (fun g hg => by have := HGE.out g hg; omega), ?_, Lib.hid (HK2.out.only HO2.out (fun hq => by have := HGE.out _ hq; omega))⟩, by simp [intOf]; omega⟩
          · rcases HM2.out g hg with h | h | h
            · exact HGE.out g h
            · simp at h
            · have := HK2.out.lt
              omega
          · exact Lib.hid (by rw [HT.out, HYS.out])
        · have HT := Lib.hid (tlist_no hk)
          go_wp2_with fail
          refine ⟨⟨n + 1, A', c', ys, F, by omega, by go_num, rfl, HSO.out, HND.out, HGE.out, hbw, ?_, HK2⟩, by simp [intOf]; omega⟩
          exact Lib.hid (by rw [HT.out, HYS.out])
      · go_wp2_with fail
        go_ret
        have hkk : n = (a * b).toNat := by omega
        have h := HYS.out
        rw [hkk] at h
        subst h
        rw [HF.out]
        first | exact ⟨A', c', F, rfl, HSO.out, HND.out, fun g hg => by have := HGE.out g hg; omega, hb⟩ | exact ⟨A', c', rfl, F, HSO.out, HND.out, fun g hg => by have := HGE.out g hg; omega, hb⟩

end Go.Proofs.Ytfgdcjpclngeaaa
