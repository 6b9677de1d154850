/-
  The formula of a net, by abstract walks: both sides.
  Conditions: those typed in each theorem.
-/
import Derived.Test.YtklhofpjjbfckaaNo
import Derived.Test.YtklhofpjjbfckaaQk
namespace Go.Proofs.Ytklhofpjjbfckaa
open Go.RowKit Go.ChangeShapes Go.WideShapes
set_option linter.unusedVariables false
set_option linter.unusedSimpArgs false
attribute [local simp ↓] condG_true condG_false condB_true condB_false
attribute [local simp] AWp_skip AWp_region_t AWp_region_d AWp_region_f still_mk AWp_seq AWp_cond condV_bool condB AWp_block AWp_exit AWp_ret
attribute [local simp] AOps_nil AOp_move AOp_assign AOp_pick AOp_binOp AOp_unOp AOp_convert AOp_len AOp_max AOp_min AOp_indexAddr AOp_load
attribute [local simp] AOp_fieldAddr AOp_field AOp_extract AOp_nilCheck AOp_build AOp_alloc AOp_box AOp_call AOp_store AOp_append AOp_buildSlice nextB_some
attribute [local simp] nextB_none adoptO adoptC AOp_makeSlice AOp_slice AOp_makeFunc AOp_guard guardD_some guardG_bool guardG_undef nextO_some nextS_some
attribute [local simp] nextZ_some nextL_some nextM_some nextT_some sliceO sliceL sliceT partO partV boundV funcO pickO
attribute [local simp] convO lenO maxO minO idxO extO nilO buildO litO litC makeO chunks
attribute [local simp] fillV placeOf thenA inBlockA St.get St.put St.eval ofCell evalT abin_add abin_sub abin_mul
attribute [local simp] abin_quo abin_rem abin_and abin_or abin_xor abin_andNot abin_shl abin_shr abin_shlu abin_eql abin_eqp abin_neq
attribute [local simp] abin_lss abin_leq abin_gtr abin_geq abin_eqlb abin_neqb aun pickV lenV intOf? indexV takeD
attribute [local simp] takeV loadV fieldAddrV fieldV ofX presD presDs pres presAll cellsV V.cell storeV
attribute [local simp] freezeC putAt kill takeC plains plainV scalarV nat_neg keepT sets eSl e1
attribute [local simp] e2 e3 e4 eInt eBool afterCall inst inst1 inst1s instD instDs RetA
attribute [local simp] resVs resV gives give1 give1s Le isPin leSlots leS leTmps leV le0
attribute [local simp] le0s ren ren0 renS ren0s frame enterT afterT_some afterC_some lives Slot.live arrsOk
attribute [local simp] viewV view0 renT rens renSs setAll List.range'_succ RetT RetW joinV leT AOpsE_nil
attribute [local simp] AOpsE_cons AOpsT_nil AOpsT_cons isCallT isFnO callOf callVC_fn condC_true condC_false beginT_mk thenT_mk pickE
attribute [local simp] pickT isT loose namesOf namesV names1 names0 stableN sameAt Op.operands Call.operands
def litVarL (l : Int) : Int := if rng l 0 800 = true then (if l % 2 = 1 then -(l / 2 + 1) else l / 2 + 1) else 0
theorem litVarL_rng (l : Int) : -401 ≤ litVarL l ∧ litVarL l ≤ 401 := by
  unfold litVarL
  split
  · rename_i h
    have := rng_iff.1 h
    split <;> omega
  · omega
/-- The clauses of a node. -/
def andCl (x : GrD) (v : Nat) : List RowD :=
  [[-((v : Int) + 1), litVarL (andAt x v).1], [-((v : Int) + 1), litVarL (andAt x v).2], [(v : Int) + 1, -litVarL (andAt x v).1, -litVarL (andAt x v).2]]
def clsOf (x : GrD) (k : Int) : List RowD := if firstG x ≤ k.toNat then andCl x k.toNat else []
def coneCls (x : GrD) (ks : List Int) : List RowD := [-1] :: ks.flatMap (clsOf x)
def netCnfC (x : GrD) (lit : Int) : List RowD := coneCls x (marksI (coneL x (lit.toNat / 2))) ++ [[litVarL lit]]
def netCnfOk (x : GrD) (lit : Int) : Bool := netOkB x && rng lit 0 (2 * (grN x : Int) - 1)
def netCnfL (x : GrD) (lit : Int) : CnfD := if netCnfOk x lit = true then ((grN x : Int), netCnfC x lit) else (0, [])
theorem marksI_in {s : List Bool} {y : Int} (h : y ∈ marksI s) : 0 ≤ y ∧ y < s.length := by
  unfold marksI marksL at h
  obtain ⟨a, ha, hv⟩ := List.mem_map.1 h
  have := List.mem_range.1 (List.mem_filter.1 ha).1
  omega
theorem marksI_len {s : List Bool} : (marksI s).length ≤ s.length := by
  unfold marksI marksL
  rw [List.length_map]
  exact Nat.le_trans (List.length_filter_le _ _) (by simp)
theorem clsOf_len {x : GrD} {k : Int} : (clsOf x k).length ≤ 3 := by unfold clsOf andCl; split <;> simp
theorem coneCls_snoc {x : GrD} {ks : List Int} {i : Nat} {k : Int} (h : ks[i]? = some k) : coneCls x (ks.take (i + 1)) = coneCls x (ks.take i) ++ clsOf x k := by
  unfold coneCls
  rw [take_snoc' h, List.flatMap_append]
  simp
theorem coneCls_len {x : GrD} : ∀ (ks : List Int), (coneCls x ks).length ≤ 1 + 3 * ks.length
  | [] => by simp [coneCls]
  | k :: ks => by
    have ih := coneCls_len (x := x) ks
    have := clsOf_len (x := x) (k := k)
    simp only [coneCls, List.length_cons, List.flatMap_cons, List.length_append] at ih ⊢
    omega
theorem netCnfC_len {x : GrD} {lit : Int} (hok : netOkB x = true) : (netCnfC x lit).length ≤ 1203 := by
  obtain ⟨-, hgl, -, -⟩ := ok_sizes hok
  have h1 := coneCls_len (x := x) (marksI (coneL x (lit.toNat / 2)))
  have h2 := marksI_len (s := coneL x (lit.toNat / 2))
  rw [coneL_len] at h2
  unfold netCnfC
  simp only [List.length_append, List.length_cons, List.length_nil]
  omega
theorem netCnfC_rows {x : GrD} {lit : Int} : ∀ r ∈ netCnfC x lit, r.length ≤ 3 := by
  intro r hr
  unfold netCnfC coneCls at hr
  rcases List.mem_append.1 hr with h | h
  · rcases List.mem_cons.1 h with rfl | h
    · simp
    · obtain ⟨k, -, hk⟩ := List.mem_flatMap.1 h
      unfold clsOf at hk
      split at hk
      · simp only [andCl, List.mem_cons, List.not_mem_nil, or_false] at hk
        rcases hk with rfl | rfl | rfl <;> simp
      · simp at hk
  · rw [List.mem_singleton.1 h]; simp
theorem netCnf_fit {x : GrD} {lit : Int} : fitCn 1048576 (netCnfL x lit) := by
  unfold netCnfL
  split
  · rename_i h
    unfold netCnfOk at h
    simp only [Bool.and_eq_true] at h
    exact ⟨by have := netCnfC_len (lit := lit) h.1; simp only; omega, fun r hr => by have := netCnfC_rows r hr; omega⟩
  · exact ⟨by simp, by simp⟩
end Go.Proofs.Ytklhofpjjbfckaa
