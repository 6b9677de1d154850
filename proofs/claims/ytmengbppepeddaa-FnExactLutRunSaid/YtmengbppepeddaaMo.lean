/-
  Marks over networks, by abstract walks.
  Conditions: those typed in each theorem.
-/
import Derived.Test.YtmengbppepeddaaMm
namespace Go.Proofs.Ytmengbppepeddaa
open Go.RowKit Go.ChangeShapes Go.WideShapes
set_option linter.unusedVariables false
set_option linter.unusedSimpArgs false
attribute [local simp ↓] condG_true condG_false condB_true condB_false
attribute [local simp] AWp_skip AWp_region_t AWp_region_f still_mk AWp_seq AWp_cond condV_bool condB AWp_block AWp_exit AWp_ret AOps_nil
attribute [local simp] AOp_move AOp_assign AOp_pick AOp_binOp AOp_unOp AOp_convert AOp_len AOp_max AOp_min AOp_indexAddr AOp_load AOp_fieldAddr
attribute [local simp] AOp_field AOp_extract AOp_nilCheck AOp_build AOp_alloc AOp_box AOp_call AOp_store AOp_append AOp_buildSlice AOp_makeSlice AOp_slice
attribute [local simp] AOp_makeFunc AOp_guard guardD_some guardG_bool guardG_undef nextO_some nextS_some nextZ_some nextL_some nextM_some nextT_some sliceO
attribute [local simp] sliceL sliceT partO partV boundV funcO pickO convO lenO maxO minO idxO
attribute [local simp] extO nilO buildO litO litC makeO chunks fillV placeOf thenA inBlockA St.get
attribute [local simp] St.put St.eval ofCell evalT abin_add abin_sub abin_mul abin_quo abin_rem abin_and abin_or abin_xor
attribute [local simp] abin_andNot abin_shl abin_shr abin_shlu abin_eql abin_neq abin_lss abin_leq abin_gtr abin_geq abin_eqlb abin_neqb
attribute [local simp] aun pickV lenV intOf? indexV takeD takeV loadV fieldAddrV fieldV ofX presD
attribute [local simp] presDs pres presAll cellsV V.cell storeV freezeC putAt kill takeC plains plainV
attribute [local simp] scalarV nat_neg keepT sets eSl e1 e2 e3 e4 eInt eBool afterCall
attribute [local simp] inst inst1 inst1s instD instDs RetA resVs resV gives give1 give1s Le
attribute [local simp] isPin leSlots leS leTmps leV le0 le0s ren ren0 renS ren0s frame
attribute [local simp] enterT afterT_some lives Slot.live arrsOk viewV view0 renT rens renSs setAll List.range'_succ
attribute [local simp] RetT RetW joinV leT
attribute [local simp] mks_len markL_len
def cNet (x : NetD) : Nat := costs cSeq x.2.1 + costs cLut x.2.2.1 + x.2.2.2.length
def mNet (k : Int) (x : NetD) : NetD := (x.1, mks cSeq mSeq k x.2.1, mks cLut mLut (k + costs cSeq x.2.1) x.2.2.1, markL x.2.2.2 (k + costs cSeq x.2.1 + costs cLut x.2.2.1))
theorem markLutNet_conW (x : NetD) (k : Int) (h0 : 0 ≤ k) (hk : k + cNet x ≤ 1152921504606846976) :
    ConW Try.prog 25 [.agg [.d (.int .i64 x.1), .ref 0, .ref 1, .ref 2], .d (.int .i64 k)] [.arr 57 true (x.2.1.map enSeq), .arr 59 true (x.2.2.1.map enLut), .arr 3 true (x.2.2.2.map (e1 eInt))]
      (k + cNet x) [.arr 57 true ((mNet k x).2.1.map enSeq), .arr 59 true ((mNet k x).2.2.1.map enLut), .arr 3 true ((mNet k x).2.2.2.map (e1 eInt))] := by
  have hc : cNet x = costs cSeq x.2.1 + costs cLut x.2.2.1 + x.2.2.2.length := rfl
  have he : k + (cNet x : Int) = k + costs cSeq x.2.1 + costs cLut x.2.2.1 + x.2.2.2.length := by omega
  rw [he]
  refine conW_of (by kernel_rfl) Try.func25 rfl rfl rfl (by simp [allLike, arrLike, mNet]) ?_
  simp
  refine callM_step (markSeqS_conM x.2.1 k h0 (by omega)) (by rfl) ?_
  simp
  refine callM_step (markLutS_conM x.2.2.1 (k + costs cSeq x.2.1) (by omega) (by omega)) (by rfl) ?_
  simp
  refine callM_step (markIntS_conM x.2.2.2 (k + costs cSeq x.2.1 + costs cLut x.2.2.1) (by omega) (by omega)) (by rfl) ?_
  simp
  exact ⟨[0, 1, 2], by simp [mNet]⟩
end Go.Proofs.Ytmengbppepeddaa
