/-
  Mappings of a graph: the reference's check; what a mapping that is accepted obeys.
  Conditions: those typed in each theorem.
-/
import Derived.Test.YtklhofpjjbfckaaNo
namespace Go.Proofs.Ytklhofpjjbfckaa
open Go.RowKit Go.ChangeShapes Go.WideShapes
set_option linter.unusedVariables false
set_option linter.unusedSimpArgs false
attribute [local simp ↓] condG_true condG_false condB_true condB_false
attribute [local simp] AWp_skip AWp_region_t AWp_region_d AWp_region_f still_mk AWp_seq AWp_cond condV_bool condB AWp_block AWp_exit AWp_ret
attribute [local simp] AOps_nil AOp_move AOp_assign AOp_pick AOp_binOp AOp_unOp AOp_convert AOp_len AOp_max AOp_min AOp_indexAddr AOp_load
attribute [local simp] AOp_fieldAddr AOp_field AOp_extract AOp_nilCheck AOp_build AOp_alloc AOp_box AOp_call AOp_store AOp_append AOp_buildSlice nextB_some
attribute [local simp] nextB_none adoptO adoptC AOp_makeSlice AOp_slice AOp_makeFunc AOp_guard guardD_some guardG_bool guardG_undef nextO_some nextS_some
attribute [local simp] nextZ_some nextL_some nextM_some nextT_some sliceO sliceL sliceT partO partV boundV funcO pickO
attribute [local simp] convO lenO maxO minO idxO extO nilO buildO litO litC makeO chunks
attribute [local simp] fillV placeOf thenA inBlockA St.get St.put St.eval ofCell evalT abin_add abin_sub abin_mul
attribute [local simp] abin_quo abin_rem abin_and abin_or abin_xor abin_andNot abin_shl abin_shr abin_shlu abin_eql abin_eqp abin_neq
attribute [local simp] abin_lss abin_leq abin_gtr abin_geq abin_eqlb abin_neqb aun pickV lenV intOf? indexV takeD
attribute [local simp] takeV loadV fieldAddrV fieldV ofX presD presDs pres presAll cellsV V.cell storeV
attribute [local simp] freezeC putAt kill takeC plains plainV scalarV nat_neg keepT sets eSl e1
attribute [local simp] e2 e3 e4 eInt eBool afterCall inst inst1 inst1s instD instDs RetA
attribute [local simp] resVs resV gives give1 give1s Le isPin leSlots leS leTmps leV le0
attribute [local simp] le0s ren ren0 renS ren0s frame enterT afterT_some afterC_some lives Slot.live arrsOk
attribute [local simp] viewV view0 renT rens renSs setAll List.range'_succ RetT RetW joinV leT AOpsE_nil
attribute [local simp] AOpsE_cons AOpsT_nil AOpsT_cons isCallT isFnO callOf callVC_fn condC_true condC_false beginT_mk thenT_mk pickE
attribute [local simp] pickT isT loose namesOf namesV names1 names0 stableN sameAt Op.operands Call.operands
attribute [local simp] mcone_len esc_len
theorem marks_in {s : List Bool} {y : Int} (h : hasB (marksI s) y = true) : 0 ≤ y ∧ y < s.length := by
  have hm := of_decide_eq_true h
  unfold marksI marksL at hm
  obtain ⟨a, ha, hv⟩ := List.mem_map.1 hm
  have := List.mem_range.1 (List.mem_filter.1 ha).1
  omega
theorem mapOk_of {x : GrD} {cs : List RowD} (h : mapOkB x cs = true) : netOkB x = true ∧ cs.length = x.2.2.1.length ∧ ∀ (k : Nat) (c : RowD), cs[k]? = some c → mapAtB x c k = true ∧ c.length ≤ 4 ∧ ∀ y ∈ c, 0 ≤ y ∧ y < grN x := by
  simp only [mapOkB, Bool.and_eq_true, decide_eq_true_eq] at h
  obtain ⟨⟨h1, h2⟩, h3⟩ := h
  refine ⟨h1, h2, fun k c hc => ?_⟩
  have hm : mapAtB x c k = true := by
    cases hh : mapAtB x c k with
    | true => rfl
    | false => rw [mapsB_not hc hh] at h3; cases h3
  have hm2 := hm
  simp only [mapAtB, cutOkB, Bool.and_eq_true, decide_eq_true_eq] at hm2
  refine ⟨hm, hm2.2.1.1.1, fun y hy => ?_⟩
  have := marks_in (List.all_eq_true.1 hm2.2.1.2 y hy)
  rw [coneL_len] at this
  exact this
end Go.Proofs.Ytklhofpjjbfckaa
/-
  Levels, use and cost of a mapping, by abstract walks: both sides.
  Conditions: those typed in each theorem.
-/
namespace Go.Proofs.Ytklhofpjjbfckaa
open Go.RowKit Go.ChangeShapes Go.WideShapes
set_option linter.unusedVariables false
set_option linter.unusedSimpArgs false
attribute [local simp ↓] condG_true condG_false condB_true condB_false
attribute [local simp] AWp_skip AWp_region_t AWp_region_d AWp_region_f still_mk AWp_seq AWp_cond condV_bool condB AWp_block AWp_exit AWp_ret
attribute [local simp] AOps_nil AOp_move AOp_assign AOp_pick AOp_binOp AOp_unOp AOp_convert AOp_len AOp_max AOp_min AOp_indexAddr AOp_load
attribute [local simp] AOp_fieldAddr AOp_field AOp_extract AOp_nilCheck AOp_build AOp_alloc AOp_box AOp_call AOp_store AOp_append AOp_buildSlice nextB_some
attribute [local simp] nextB_none adoptO adoptC AOp_makeSlice AOp_slice AOp_makeFunc AOp_guard guardD_some guardG_bool guardG_undef nextO_some nextS_some
attribute [local simp] nextZ_some nextL_some nextM_some nextT_some sliceO sliceL sliceT partO partV boundV funcO pickO
attribute [local simp] convO lenO maxO minO idxO extO nilO buildO litO litC makeO chunks
attribute [local simp] fillV placeOf thenA inBlockA St.get St.put St.eval ofCell evalT abin_add abin_sub abin_mul
attribute [local simp] abin_quo abin_rem abin_and abin_or abin_xor abin_andNot abin_shl abin_shr abin_shlu abin_eql abin_eqp abin_neq
attribute [local simp] abin_lss abin_leq abin_gtr abin_geq abin_eqlb abin_neqb aun pickV lenV intOf? indexV takeD
attribute [local simp] takeV loadV fieldAddrV fieldV ofX presD presDs pres presAll cellsV V.cell storeV
attribute [local simp] freezeC putAt kill takeC plains plainV scalarV nat_neg keepT sets eSl e1
attribute [local simp] e2 e3 e4 eInt eBool afterCall inst inst1 inst1s instD instDs RetA
attribute [local simp] resVs resV gives give1 give1s Le isPin leSlots leS leTmps leV le0
attribute [local simp] le0s ren ren0 renS ren0s frame enterT afterT_some afterC_some lives Slot.live arrsOk
attribute [local simp] viewV view0 renT rens renSs setAll List.range'_succ RetT RetW joinV leT AOpsE_nil
attribute [local simp] AOpsE_cons AOpsT_nil AOpsT_cons isCallT isFnO callOf callVC_fn condC_true condC_false beginT_mk thenT_mk pickE
attribute [local simp] pickT isT loose namesOf namesV names1 names0 stableN sameAt Op.operands Call.operands
attribute [local simp] mcone_len esc_len
def mx (a b : Int) : Int := if b > a then b else a
def rtM (s : List Bool) (rs : List Int) : Nat → List Bool
  | 0 => s
  | j + 1 => (rtM s rs j).set (atI rs j / 2).toNat true
def ctM (s : List Bool) (c : List Int) : Nat → List Bool
  | 0 => s
  | j + 1 => (ctM s c j).set (atI c j).toNat true
theorem rtM_len {s : List Bool} {rs : List Int} : ∀ j, (rtM s rs j).length = s.length
  | 0 => rfl
  | j + 1 => by simp [rtM, rtM_len j]
theorem ctM_len {s : List Bool} {c : List Int} : ∀ j, (ctM s c j).length = s.length
  | 0 => rfl
  | j + 1 => by simp [ctM, ctM_len j]
theorem ctM_keep {s : List Bool} {c : List Int} {v : Nat} (h : getB s v = true) : ∀ j, getB (ctM s c j) v = true
  | 0 => h
  | j + 1 => by
    have ih := ctM_keep (c := c) h j
    unfold ctM
    by_cases hl : (atI c j).toNat < (ctM s c j).length
    · rw [getB_set hl, ih]; simp
    · rw [List.set_eq_of_length_le (by omega)]; exact ih
end Go.Proofs.Ytklhofpjjbfckaa
/-
  Use and cost of a mapping, by abstract walks: both sides.
  Conditions: those typed in each theorem.
-/
namespace Go.Proofs.Ytklhofpjjbfckaa
open Go.RowKit Go.ChangeShapes Go.WideShapes
set_option linter.unusedVariables false
set_option linter.unusedSimpArgs false
attribute [local simp ↓] condG_true condG_false condB_true condB_false
attribute [local simp] AWp_skip AWp_region_t AWp_region_d AWp_region_f still_mk AWp_seq AWp_cond condV_bool condB AWp_block AWp_exit AWp_ret
attribute [local simp] AOps_nil AOp_move AOp_assign AOp_pick AOp_binOp AOp_unOp AOp_convert AOp_len AOp_max AOp_min AOp_indexAddr AOp_load
attribute [local simp] AOp_fieldAddr AOp_field AOp_extract AOp_nilCheck AOp_build AOp_alloc AOp_box AOp_call AOp_store AOp_append AOp_buildSlice nextB_some
attribute [local simp] nextB_none adoptO adoptC AOp_makeSlice AOp_slice AOp_makeFunc AOp_guard guardD_some guardG_bool guardG_undef nextO_some nextS_some
attribute [local simp] nextZ_some nextL_some nextM_some nextT_some sliceO sliceL sliceT partO partV boundV funcO pickO
attribute [local simp] convO lenO maxO minO idxO extO nilO buildO litO litC makeO chunks
attribute [local simp] fillV placeOf thenA inBlockA St.get St.put St.eval ofCell evalT abin_add abin_sub abin_mul
attribute [local simp] abin_quo abin_rem abin_and abin_or abin_xor abin_andNot abin_shl abin_shr abin_shlu abin_eql abin_eqp abin_neq
attribute [local simp] abin_lss abin_leq abin_gtr abin_geq abin_eqlb abin_neqb aun pickV lenV intOf? indexV takeD
attribute [local simp] takeV loadV fieldAddrV fieldV ofX presD presDs pres presAll cellsV V.cell storeV
attribute [local simp] freezeC putAt kill takeC plains plainV scalarV nat_neg keepT sets eSl e1
attribute [local simp] e2 e3 e4 eInt eBool afterCall inst inst1 inst1s instD instDs RetA
attribute [local simp] resVs resV gives give1 give1s Le isPin leSlots leS leTmps leV le0
attribute [local simp] le0s ren ren0 renS ren0s frame enterT afterT_some afterC_some lives Slot.live arrsOk
attribute [local simp] viewV view0 renT rens renSs setAll List.range'_succ RetT RetW joinV leT AOpsE_nil
attribute [local simp] AOpsE_cons AOpsT_nil AOpsT_cons isCallT isFnO callOf callVC_fn condC_true condC_false beginT_mk thenT_mk pickE
attribute [local simp] pickT isT loose namesOf namesV names1 names0 stableN sameAt Op.operands Call.operands
attribute [local simp] mcone_len esc_len
theorem rootsN_in {x : GrD} (hok : netOkB x = true) : ∀ y ∈ grRoots x, 0 ≤ y ∧ y < 2 * (grN x : Int) := (netOk_of hok).2.2.1
theorem rootsN_len {x : GrD} (hok : netOkB x = true) : (grRoots x).length ≤ 64 := by
  obtain ⟨⟨n1, n2, n3, n4, n5, n6⟩, o1, -, -⟩ := netOk_of hok
  have h1 := grK_len (x := x) (k := x.2.1.length) (M := 4) (fun s hs => seqOk_len (o1 s hs))
  rw [grK_all] at h1
  omega
theorem ctM_only {s : List Bool} {c : List Int} {v : Nat} (hc : ∀ y ∈ c, y.toNat ≠ v) : ∀ n, n ≤ c.length → getB (ctM s c n) v = getB s v
  | 0, _ => rfl
  | n + 1, h => by
    have ih := ctM_only (s := s) hc n (by omega)
    have hx : c[n]? = some c[n] := List.getElem?_eq_getElem (by omega)
    have hne := hc _ (List.getElem_mem (show n < c.length by omega))
    unfold ctM
    rw [atI_get hx]
    by_cases hl : (c[n]).toNat < (ctM s c n).length
    · rw [getB_set hl, ih, decide_eq_false (fun e : v = (c[n]).toNat => hne e.symm), Bool.false_or]
    · rw [List.set_eq_of_length_le (by omega)]; exact ih
theorem cut_below {x : GrD} {cs : List RowD} (hm : mapOkB x cs = true) {p : Nat} {c : RowD} (hc : cs[p]? = some c) : ∀ y ∈ c, 0 ≤ y ∧ y < ((firstG x + p : Nat) : Int) := fun y hy => by
  obtain ⟨hok, hl, hcs⟩ := mapOk_of hm
  obtain ⟨hat, -, hin⟩ := hcs p c hc
  have hp : p < cs.length := (List.getElem?_eq_some_iff.1 hc).1
  have hN := grN_eq x
  have hv : firstG x + p < grN x := by omega
  obtain ⟨y0, y1⟩ := hin y hy
  simp only [mapAtB, cutOkB, Bool.and_eq_true, decide_eq_true_eq, Bool.not_eq_true', hasB, decide_eq_false_iff_not] at hat
  obtain ⟨h1, ⟨⟨-, h2⟩, h3⟩, -⟩ := hat
  have hb := List.all_eq_true.1 h3 y hy
  obtain ⟨u, rfl⟩ : ∃ u : Nat, y = u := ⟨y.toNat, by omega⟩
  rw [marks_has] at hb
  have hr := (cone_iff hok hv u).1 hb
  have hle := Rch.le (kids_lt hok) hr hv
  have hne : u ≠ firstG x + p := fun e => h1 (by rw [← e]; exact hy)
  omega
end Go.Proofs.Ytklhofpjjbfckaa
