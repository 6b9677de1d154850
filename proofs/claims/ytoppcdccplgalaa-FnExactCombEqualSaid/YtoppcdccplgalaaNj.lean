/-
  Cones and cuts of a graph, by abstract walks: both sides.
  Conditions: those typed in each theorem.
-/
import Derived.Test.YtoppcdccplgalaaNd
import Derived.Test.YtoppcdccplgalaaNh
import Derived.Test.YtoppcdccplgalaaNi
import Derived.Test.YtoppcdccplgalaaNv
namespace Go.Proofs.Ytoppcdccplgalaa
open Go.RowKit Go.ChangeShapes Go.WideShapes
set_option linter.unusedVariables false
set_option linter.unusedSimpArgs false
attribute [local simp ↓] condG_true condG_false condB_true condB_false
attribute [local simp] AWp_skip AWp_region_t AWp_region_d AWp_region_f still_mk AWp_seq AWp_cond condV_bool condB AWp_block AWp_exit AWp_ret
attribute [local simp] AOps_nil AOp_move AOp_assign AOp_pick AOp_binOp AOp_unOp AOp_convert AOp_len AOp_max AOp_min AOp_indexAddr AOp_load
attribute [local simp] AOp_fieldAddr AOp_field AOp_extract AOp_nilCheck AOp_build AOp_alloc AOp_box AOp_call AOp_store AOp_append AOp_buildSlice nextB_some
attribute [local simp] nextB_none adoptO adoptC AOp_makeSlice AOp_slice AOp_makeFunc AOp_guard guardD_some guardG_bool guardG_undef nextO_some nextS_some
attribute [local simp] nextZ_some nextL_some nextM_some nextT_some sliceO sliceL sliceT partO partV boundV funcO pickO
attribute [local simp] convO lenO maxO minO idxO extO nilO buildO litO litC makeO chunks
attribute [local simp] fillV placeOf thenA inBlockA St.get St.put St.eval ofCell evalT abin_add abin_sub abin_mul
attribute [local simp] abin_quo abin_rem abin_and abin_or abin_xor abin_andNot abin_shl abin_shr abin_shlu abin_eql abin_eqp abin_neq
attribute [local simp] abin_lss abin_leq abin_gtr abin_geq abin_eqlb abin_neqb aun pickV lenV intOf? indexV takeD
attribute [local simp] takeV loadV fieldAddrV fieldV ofX presD presDs pres presAll cellsV V.cell storeV
attribute [local simp] freezeC putAt kill takeC plains plainV scalarV nat_neg keepT sets eSl e1
attribute [local simp] e2 e3 e4 eInt eBool afterCall inst inst1 inst1s instD instDs RetA
attribute [local simp] resVs resV gives give1 give1s Le isPin leSlots leS leTmps leV le0
attribute [local simp] le0s ren ren0 renS ren0s frame enterT afterT_some afterC_some lives Slot.live arrsOk
attribute [local simp] viewV view0 renT rens renSs setAll List.range'_succ RetT RetW joinV leT AOpsE_nil
attribute [local simp] AOpsE_cons AOpsT_nil AOpsT_cons isCallT callOf condC_true condC_false beginT_mk thenT_mk pickE pickT isT
attribute [local simp] loose namesOf namesV names1 names0 stableN sameAt Op.operands Call.operands
attribute [local simp] mcone_len esc_len
abbrev bools (s : List Bool) : X := .d (eSl 4 (e1 eBool) s)
/-- The first AND node; the nodes below an AND node. -/
def firstG (x : GrD) : Nat := 1 + x.1.toNat + x.2.1.length
def andAt (x : GrD) (v : Nat) : AndD := (x.2.2.1[v - firstG x]?).getD (0, 0)
def kidA (x : GrD) (v : Nat) : Nat := (andAt x v).1.toNat / 2
def kidB (x : GrD) (v : Nat) : Nat := (andAt x v).2.toNat / 2
abbrev mconeG (x : GrD) := mcone (firstG x) (kidA x) (kidB x)
theorem grN_eq (x : GrD) : grN x = firstG x + x.2.2.1.length := rfl
theorem and_at {x : GrD} (hok : netOkB x = true) {v : Nat} (h1 : firstG x ≤ v) (h2 : v < grN x) :
    x.2.2.1[v - firstG x]? = some (andAt x v) ∧ 0 ≤ (andAt x v).1 ∧ 0 ≤ (andAt x v).2 ∧ (andAt x v).1 / 2 = (kidA x v : Int) ∧ (andAt x v).2 / 2 = (kidB x v : Int) ∧ kidA x v < v ∧ kidB x v < v := by
  obtain ⟨⟨n1, n2, n3, n4, n5, n6⟩, -, -, o3⟩ := netOk_of hok
  rw [grN_eq] at h2
  have hl : v - firstG x < x.2.2.1.length := by omega
  have ha : x.2.2.1[v - firstG x]? = some (andAt x v) := by unfold andAt; rw [List.getElem?_eq_getElem hl]; rfl
  have ho := o3 _ _ ha
  have hf : (firstG x : Int) = 1 + x.1 + x.2.1.length := by unfold firstG; omega
  refine ⟨ha, ho.1.1, ho.2.1, ?_, ?_, ?_, ?_⟩
  · unfold kidA; omega
  · unfold kidB; omega
  · unfold kidA; omega
  · unfold kidB; omega
theorem kids_lt {x : GrD} (hok : netOkB x = true) : ∀ v, firstG x ≤ v → v < grN x → kidA x v < v ∧ kidB x v < v := fun v h1 h2 => (and_at hok h1 h2).2.2.2.2.2
theorem map_setB {s : List Bool} {v : Nat} {b : Bool} : (s.map (e1 eBool)).set v [.bool b] = (s.set v b).map (e1 eBool) := by rw [List.map_set]; rfl
abbrev vgr (x : GrD) : V := .agg [.d (.int .i64 x.1), .d (eSl 52 enSeq x.2.1), .d (eSl 100 enAnd x.2.2.1), .d (eSl 3 (e1 eInt) x.2.2.2)]
set_option maxRecDepth 100000 in
theorem markCone_conT (x : GrD) (hx : fitGr 1048576 x) (hok : netOkB x = true) : ∀ (n v : Nat) (s : List Bool), v < n → v < grN x → s.length = grN x →
    ConT Try.prog 160 [vgr x, .d (.int .i64 v), .ref 0] [.arr 4 true (s.map (e1 eBool))] (.tup []) [.arr 4 true ((mconeG x n v s).map (e1 eBool))]
  | 0, v, s, h, _, _ => by omega
  | n + 1, v, s, hn, hv, hl => by
    have ih := markCone_conT x hx hok n
    obtain ⟨⟨n1, n2, n3, n4, n5, n6⟩, -, -, -⟩ := netOk_of hok
    have hF : (firstG x : Int) = 1 + x.1 + x.2.1.length := by unfold firstG; omega
    have hN := grN_eq x
    have hgl : grN x ≤ 400 := by unfold firstG at hN; omega
    have hat := getB_at (s := s) (v := v) (by omega)
    refine conT_ofD (by kernel_rfl) Try.func160 rfl rfl rfl (by simp [laters, Later]) (by simp [lives, Slot.live]) ?_
    simp [enGr, hat]
    rcases Bool.eq_false_or_eq_true (getB s v) with hs | hs
    · simp [hs]
      exact ⟨[0], by simp [mcone, hs]⟩
    have hset := map_setB (s := s) (v := v) (b := true)
    have hl1 : (s.set v true).length = grN x := by simp [hl]
    have hm : mconeG x (n + 1) v s = if v < firstG x then s.set v true else mconeG x n (kidB x v) (mconeG x n (kidA x v) (s.set v true)) := by
      simp [mconeG, mcone, hs]
    rw [hm]
    have w1 : IntKind.i64.wrap ((v : Int) - (1 + x.1 + x.2.1.length)) = (v : Int) - (1 + x.1 + x.2.1.length) := wrap_id (by omega) (by omega)
    generalize s.set v true = s1 at *
    simp [hs, hset]
    refine call_step (firstAnd_con x ⟨n1, n2⟩ n3) ?_
    simp [w1]
    by_cases hf : v < firstG x
    · simp [show ¬ 1 + x.1 + (x.2.1.length : Int) ≤ v by omega, show (v : Int) < 1 + x.1 + x.2.1.length by omega, hf]
      exact ⟨[0], by simp⟩
    obtain ⟨ha, a1, a2, a3, a4, a5, a6⟩ := and_at hok (by omega) hv
    have ht : ((v : Int) - (1 + x.1 + x.2.1.length)).toNat = v - firstG x := by omega
    have hL : (enAnd (andAt x v)).length = 2 := rfl
    have hn0 : ¬ (v : Int) - (1 + x.1 + x.2.1.length) < 0 := by omega
    have q1 : IntKind.i64.wrap ((andAt x v).1.tdiv 2) = (kidA x v : Int) := by rw [Int.tdiv_eq_ediv_of_nonneg a1, a3]; exact wrap_id (by omega) (by omega)
    have q2 : IntKind.i64.wrap ((andAt x v).2.tdiv 2) = (kidB x v : Int) := by rw [Int.tdiv_eq_ediv_of_nonneg a2, a4]; exact wrap_id (by omega) (by omega)
    simp [show 1 + x.1 + (x.2.1.length : Int) ≤ v by omega, show ¬ (v : Int) < 1 + x.1 + x.2.1.length by omega, hf]
    refine drawD_of 9 (by kernel_rfl) ?_
    simp [ha, ht, hL, hn0, enAnd, q1]
    refine callT_step (ih (kidA x v) s1 (by omega) (by omega) hl1) [] [0] (by simp) ?_
    simp
    refine drawD_of 9 (by kernel_rfl) ?_
    simp [ha, ht, hL, hn0, enAnd, q2]
    refine callT_step (ih (kidB x v) (mconeG x n (kidA x v) s1) (by omega) (by omega) (by rw [mcone_len, hl1])) [] [0] (by simp) ?_
    simp
    exact ⟨[0], by simp⟩
/-- The marked ones. -/
def marksL (s : List Bool) (k : Nat) : List Int := ((List.range k).filter (getB s)).map fun i : Nat => (i : Int)
def marksI (s : List Bool) : List Int := marksL s s.length
theorem marksL_succ {s : List Bool} {k : Nat} : marksL s (k + 1) = if getB s k = true then marksL s k ++ [(k : Int)] else marksL s k := by
  unfold marksL
  rw [List.range_succ, List.filter_append]
  by_cases h : getB s k = true
  · simp [h]
  · simp [h]
theorem marksL_len {s : List Bool} {k : Nat} : (marksL s k).length ≤ k := by
  unfold marksL
  have := List.length_filter_le (getB s) (List.range k)
  simpa using this
theorem marked_con (s : List Bool) (hs : s.length ≤ 1048576) : ConC Try.prog 161 [bools s] (ints (marksI s)) := by
  refine con_of (by kernel_rfl) Try.func161 rfl rfl rfl ?_
  simp
  refine aw_loopN [false, false, false, true, false, false, true, true, true, false, false, false, false, false, false, false, false, false, false, false] (fun k : Nat => k ≤ s.length) (fun k : Nat => [(3, nilR (marksL s k).length 0), (8, .d (.int .i64 k))]) (fun k : Nat => nilS (marksL s k).length (marksL s k)) (fun k : Nat => s.length - k) 0 ?_ ?_ ?_
  · simp
  · exact ⟨[], by simp [nilR, nilS, marksL]⟩
  rintro I S μ hI hS hμ k hk
  by_cases hlt : k < s.length
  · have hat := getB_at (s := s) (v := k) hlt
    have w2 : IntKind.i64.wrap ((k : Int) + 1) = (k : Int) + 1 := wrap_id (by omega) (by omega)
    have hd : decide (k < s.length) = true := decide_eq_true hlt
    have hnx := marksL_succ (s := s) (k := k)
    have hll := marksL_len (s := s) (k := k)
    generalize marksL s k = ms at *
    rcases Bool.eq_false_or_eq_true (getB s k) with hb | hb
    · rw [hb, if_pos rfl] at hnx
      by_cases hk0 : ms = []
      · subst hk0
        simp [nilR, nilS, hd, hat, hb]
        refine app_data vt_el_24 rfl (by simp) rfl (by simp) (by simp) (by first | (simp; done) | (simp; omega)) (by simp [flatP, flatD]) ?_
        simp [w2]
        exact round_of hI hS hμ (k + 1) (by omega) (by omega) ⟨[1], by simp [nilR, nilS, hnx]⟩
      · simp [nilR, nilS, hd, hat, hb, hk0]
        refine app_data vt_el_24 rfl (by simp) rfl (by simp) (by simp) (by first | (simp; done) | (simp; omega)) (by simp [flatP, flatD]) ?_
        simp [w2]
        exact round_of hI hS hμ (k + 1) (by omega) (by omega) ⟨[2], by simp [nilR, nilS, hnx]⟩
    · rw [hb, if_neg (by simp)] at hnx
      simp [nilR, nilS, hd, hat, hb, w2]
      by_cases hk0 : ms = []
      · exact round_of hI hS hμ (k + 1) (by omega) (by omega) ⟨[], by simp [nilR, nilS, hnx, hk0]⟩
      · exact round_of hI hS hμ (k + 1) (by omega) (by omega) ⟨[0], by simp [nilR, nilS, hnx, hk0]⟩
  · have hk' : k = s.length := by omega
    subst hk'
    have hm : marksI s = marksL s s.length := rfl
    rw [hm]
    generalize marksL s s.length = ms at *
    by_cases hk0 : ms = []
    · subst hk0
      simp [nilR, nilS, hlt]
    · simp [nilR, nilS, hlt, hk0]
/-- The cone of a node. -/
def coneL (x : GrD) (v : Nat) : List Bool := mconeG x (v + 1) v (List.replicate (grN x) false)
theorem coneL_len {x : GrD} {v : Nat} : (coneL x v).length = grN x := by simp [coneL]
theorem cone_con (x : GrD) (v : Nat) (hx : fitGr 1048576 x) (hok : netOkB x = true) (hv : v < grN x) : ConC Try.prog 86 [igr x, .d (.int .i64 v)] (ints (marksI (coneL x v))) := by
  obtain ⟨⟨n1, n2, n3, n4, n5, n6⟩, -, -, -⟩ := netOk_of hok
  have hN := grN_eq x
  have hF : (firstG x : Int) = 1 + x.1 + x.2.1.length := by unfold firstG; omega
  have hgl : grN x ≤ 400 := by unfold firstG at hN; omega
  have hcl := coneL_len (x := x) (v := v)
  have hNi : (1 + x.1 + (x.2.1.length : Int) + (x.2.2.1.length : Int)).toNat = grN x := by omega
  have hr : List.replicate (grN x) [D.bool false] = (List.replicate (grN x) false).map (e1 eBool) := by rw [List.map_replicate]; rfl
  have hm := markCone_conT x hx hok (v + 1) v (List.replicate (grN x) false) (by omega) hv (by simp)
  have hc : mconeG x (v + 1) v (List.replicate (grN x) false) = coneL x v := rfl
  rw [hc] at hm
  refine con_of (by kernel_rfl) Try.func86 rfl rfl rfl ?_
  simp [enGr]
  refine call_step (iNodeCnt_con x ⟨n1, n2⟩ n3 n4) ?_
  simp
  refine ⟨⟨by omega, by omega⟩, ?_⟩
  rw [hNi, hr]
  refine callT_step (hm) [] [1] (by simp) ?_
  simp
  refine call_step (marked_con (coneL x v) (by omega)) ?_
  simp
theorem isAnd_con (x : GrD) (v : Nat) (h1 : 0 ≤ x.1 ∧ x.1 ≤ 20) (h2 : x.2.1.length ≤ 12) (h3 : x.2.2.1.length ≤ 300) : ConC Try.prog 87 [igr x, .d (.int .i64 v)] (.d (.bool (decide (firstG x ≤ v) && decide (v < grN x)))) := by
  have hF : (firstG x : Int) = 1 + x.1 + x.2.1.length := by unfold firstG; omega
  have hN := grN_eq x
  refine con_of (by kernel_rfl) Try.func87 rfl rfl rfl ?_
  simp [enGr]
  refine call_step (firstAnd_con x h1 h2) ?_
  simp
  by_cases hf : firstG x ≤ v
  · simp [show 1 + x.1 + (x.2.1.length : Int) ≤ v by omega]
    refine call_step (iNodeCnt_con x h1 h2 h3) ?_
    simp
    by_cases hn : v < grN x
    · simp [hf, hn, show (v : Int) < 1 + x.1 + x.2.1.length + x.2.2.1.length by omega]
    · simp [hf, hn, show ¬ (v : Int) < 1 + x.1 + x.2.1.length + x.2.2.1.length by omega]
  · simp [hf, show ¬ 1 + x.1 + (x.2.1.length : Int) ≤ v by omega, show (v : Int) < 1 + x.1 + x.2.1.length by omega]
end Go.Proofs.Ytoppcdccplgalaa
