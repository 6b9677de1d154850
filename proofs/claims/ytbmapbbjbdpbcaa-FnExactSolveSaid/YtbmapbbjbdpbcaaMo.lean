/-
  Marks over networks, by abstract walks.
  Conditions: those typed in each theorem.
-/
import Derived.Test.YtbmapbbjbdpbcaaMm
namespace Go.Proofs.Ytbmapbbjbdpbcaa
open Go.RowKit Go.ChangeShapes Go.WideShapes
set_option linter.unusedVariables false
set_option linter.unusedSimpArgs false
attribute [local simp ↓] condG_true condG_false condB_true condB_false
attribute [local simp] AWp_skip AWp_region_t AWp_region_d AWp_region_f still_mk AWp_seq AWp_cond condV_bool condB AWp_block AWp_exit AWp_ret
attribute [local simp] AOps_nil AOp_move AOp_assign AOp_pick AOp_binOp AOp_unOp AOp_convert AOp_len AOp_max AOp_min AOp_indexAddr AOp_load
attribute [local simp] AOp_fieldAddr AOp_field AOp_extract AOp_nilCheck AOp_build AOp_alloc AOp_box AOp_call AOp_store AOp_append AOp_buildSlice AOp_makeSlice
attribute [local simp] AOp_slice AOp_makeFunc AOp_guard guardD_some guardG_bool guardG_undef nextO_some nextS_some nextZ_some nextL_some nextM_some nextT_some
attribute [local simp] sliceO sliceL sliceT partO partV boundV funcO pickO convO lenO maxO minO
attribute [local simp] idxO extO nilO buildO litO litC makeO chunks fillV placeOf thenA inBlockA
attribute [local simp] St.get St.put St.eval ofCell evalT abin_add abin_sub abin_mul abin_quo abin_rem abin_and abin_or
attribute [local simp] abin_xor abin_andNot abin_shl abin_shr abin_shlu abin_eql abin_neq abin_lss abin_leq abin_gtr abin_geq abin_eqlb
attribute [local simp] abin_neqb aun pickV lenV intOf? indexV takeD takeV loadV fieldAddrV fieldV ofX
attribute [local simp] presD presDs pres presAll cellsV V.cell storeV freezeC putAt kill takeC plains
attribute [local simp] plainV scalarV nat_neg keepT sets eSl e1 e2 e3 e4 eInt eBool
attribute [local simp] afterCall inst inst1 inst1s instD instDs RetA resVs resV gives give1 give1s
attribute [local simp] Le isPin leSlots leS leTmps leV le0 le0s ren ren0 renS ren0s
attribute [local simp] frame enterT afterT_some afterC_some lives Slot.live arrsOk viewV view0 renT rens renSs
attribute [local simp] setAll List.range'_succ RetT RetW joinV leT AOpsE_nil AOpsE_cons AOpsT_nil AOpsT_cons isCallT callOf
attribute [local simp] condC_true condC_false beginT_mk thenT_mk pickE pickT isT loose namesOf namesV names1 names0
attribute [local simp] stableN sameAt Op.operands Call.operands
attribute [local simp] mks_len markL_len
def mBool (k : Int) (_ : Bool) : Bool := decide (Int.tmod k 3 = 0)
def mkBool (k : Int) (xs : List Bool) : List Bool := mks (fun _ => 1) mBool k xs
theorem costs1 {α : Type} : ∀ (xs : List α), costs (fun _ => 1) xs = xs.length
  | [] => rfl
  | x :: xs => by simp [costs, costs1 xs]; omega
theorem mkBool_len {k : Int} {xs : List Bool} : (mkBool k xs).length = xs.length := mks_len _ _
theorem markBoolS_conT (xs : List Bool) (k : Int) (h0 : 0 ≤ k) (hk : k + xs.length ≤ 1152921504606846976) :
    ConT Try.prog 23 [.ref 0, .d (.int .i64 k)] [.arr 4 true (xs.map (e1 eBool))] (.d (.int .i64 (k + xs.length))) [.arr 4 true ((mkBool k xs).map (e1 eBool))] := by
  refine conT_of (by kernel_rfl) Try.func23 rfl rfl rfl (by simp [laters, Later, mkBool_len]) (by simp [lives, Slot.live]) ?_
  simp
  refine aw_loopU [true, true, false, false, false, true, false, false, false, false, false, false, false, false, false, false, false, false, false, false, false] (fun j : Nat => j ≤ xs.length) (fun j : Nat => [(1, .d (.int .i64 (k + j))), (5, .d (.int .i64 j))]) (fun j : Nat => [(0, .arr 4 true ((mkJ (fun _ => 1) mBool k xs j).map (e1 eBool)))]) (fun j : Nat => xs.length - j) 0 ?_ ?_ ?_
  · simp
  · exact ⟨[0], by simp [mkJ_0]⟩
  rintro I S μ hI hS hμ j hj
  have hl := mkJ_len (f := fun _ => 1) (m := mBool) (k := k) (xs := xs) j hj
  by_cases hlt : j < xs.length
  · have w2 : IntKind.i64.wrap ((j : Int) + 1) = (j : Int) + 1 := wrap_id (by omega) (by omega)
    have w3 : IntKind.i64.wrap (k + (j : Int) + 1) = k + ((j : Int) + 1) := by rw [wrap_id (by omega) (by omega)]; omega
    have hx : xs[j]? = some xs[j] := List.getElem?_eq_getElem hlt
    have hr := mkJ_at (f := fun _ => 1) (m := mBool) (k := k) hx
    have hn := mkJ_succ (f := fun _ => 1) (m := mBool) (k := k) hx
    rw [costs1, List.length_take, Nat.min_eq_left hj] at hn
    have hmb : mBool (k + j) xs[j] = (Int.tmod (k + j) 3 == 0) := rfl
    generalize mkJ (fun _ => 1) mBool k xs j = lv at *
    generalize xs[j] = s at *
    have hset : (lv.map (e1 eBool)).set j [.bool (Int.tmod (k + j) 3 == 0)] = (lv.set j (mBool (k + j) s)).map (e1 eBool) := by rw [List.map_set, hmb]; rfl
    rw [← hn] at hset
    have hd : decide (j < xs.length) = true := decide_eq_true hlt
    simp [hl, hd, hr, w2, w3, hset]
    exact round_of hI hS hμ (j + 1) (by omega) (by omega) ⟨[0], by simp⟩
  · have hj' : j = xs.length := by omega
    subst hj'
    rw [mkJ_all]
    have hmk : mks (fun _ => 1) mBool k xs = mkBool k xs := rfl
    rw [hmk]
    simp [hlt, mkBool_len]
    exact ⟨[0], by simp⟩
theorem markBoolS_conM (xs : List Bool) (k : Int) (h0 : 0 ≤ k) (hk : k + xs.length ≤ 1152921504606846976) :
    ConM Try.prog 23 4 (xs.map (e1 eBool)) k (k + xs.length) ((mkBool k xs).map (e1 eBool)) :=
  conM_flat (by simp [mkBool_len]) (fun w e he cs f h => by obtain ⟨x, _, rfl⟩ := List.mem_map.1 he; exact flat_owns (by simp [flatD]) h) (fun w e he cs f h => by obtain ⟨x, _, rfl⟩ := List.mem_map.1 he; exact flat_owns (by simp [flatD]) h) (markBoolS_conT xs k h0 hk)
theorem heldBoolS_con (xs : List Bool) (k : Int) (hx : xs.length ≤ 1048576) (hk : 0 ≤ k ∧ k ≤ 1152921504606846976) : ConC Try.prog 24 [.d (eSl 4 (e1 eBool) (mkBool k xs)), .d (.int .i64 k)] (.d (.int .i64 (k + xs.length))) := by
  have hl := mkBool_len (xs := xs) (k := k)
  have hat : ∀ j, j < xs.length → (mkBool k xs)[j]? = some (Int.tmod (k + j) 3 == 0) := fun j h => by
    have h1 := mks_at (f := fun _ => 1) (m := mBool) k xs (List.getElem?_eq_getElem h)
    rw [costs1, List.length_take, Nat.min_eq_left (by omega)] at h1
    exact h1
  generalize mkBool k xs = ms at *
  refine con_of (by kernel_rfl) Try.func24 rfl rfl rfl ?_
  simp
  refine aw_loopU [true, true, false, false, false, true, false, false, false, false, false, false, false, false, false, false, false, false, false, false, false, false, false] (fun j : Nat => j ≤ xs.length) (fun j : Nat => [(1, .d (.int .i64 (k + j))), (5, .d (.int .i64 j))]) (fun j : Nat => []) (fun j : Nat => xs.length - j) 0 ?_ ?_ ?_
  · simp
  · exact ⟨[], by simp⟩
  rintro I S μ hI hS hμ j hj
  by_cases hlt : j < xs.length
  · have w2 : IntKind.i64.wrap ((j : Int) + 1) = (j : Int) + 1 := wrap_id (by omega) (by omega)
    have w3 : IntKind.i64.wrap (k + (j : Int) + 1) = k + ((j : Int) + 1) := by rw [wrap_id (by omega) (by omega)]; omega
    have hd : decide (j < xs.length) = true := decide_eq_true hlt
    have hr := hat j hlt
    simp [hl, hd, hr, w2, w3]
    exact round_of hI hS hμ (j + 1) (by omega) (by omega) ⟨[], by simp⟩
  · have hj' : j = xs.length := by omega
    subst hj'
    simp [hl, hlt]
end Go.Proofs.Ytbmapbbjbdpbcaa
