/-
  The reference's search for one more path, by abstract walks.
  Conditions: those typed in each theorem.
-/
import Derived.Test.YtklhofpjjbfckaaFa
import Derived.Test.YtklhofpjjbfckaaNo
namespace Go.Proofs.Ytklhofpjjbfckaa
open Go.RowKit Go.ChangeShapes Go.WideShapes
set_option linter.unusedVariables false
set_option linter.unusedSimpArgs false
attribute [local simp ↓] condG_true condG_false condB_true condB_false
attribute [local simp] AWp_skip AWp_region_t AWp_region_d AWp_region_f still_mk AWp_seq AWp_cond condV_bool condB AWp_block AWp_exit AWp_ret
attribute [local simp] AOps_nil AOp_move AOp_assign AOp_pick AOp_binOp AOp_unOp AOp_convert AOp_len AOp_max AOp_min AOp_indexAddr AOp_load
attribute [local simp] AOp_fieldAddr AOp_field AOp_extract AOp_nilCheck AOp_build AOp_alloc AOp_box AOp_call AOp_store AOp_append AOp_buildSlice nextB_some
attribute [local simp] nextB_none adoptO adoptC AOp_makeSlice AOp_slice AOp_makeFunc AOp_guard guardD_some guardG_bool guardG_undef nextO_some nextS_some
attribute [local simp] nextZ_some nextL_some nextM_some nextT_some sliceO sliceL sliceT partO partV boundV funcO pickO
attribute [local simp] convO lenO maxO minO idxO extO nilO buildO litO litC makeO chunks
attribute [local simp] fillV placeOf thenA inBlockA St.get St.put St.eval ofCell evalT abin_add abin_sub abin_mul
attribute [local simp] abin_quo abin_rem abin_and abin_or abin_xor abin_andNot abin_shl abin_shr abin_shlu abin_eql abin_eqp abin_neq
attribute [local simp] abin_lss abin_leq abin_gtr abin_geq abin_eqlb abin_neqb aun pickV lenV intOf? indexV takeD
attribute [local simp] takeV loadV fieldAddrV fieldV ofX presD presDs pres presAll cellsV V.cell storeV
attribute [local simp] freezeC putAt kill takeC plains plainV scalarV nat_neg keepT sets eSl e1
attribute [local simp] e2 e3 e4 eInt eBool abinS_d abinS_agg abinS nilEq abin_eqb AOp_makeMap AOp_lookup
attribute [local simp] AOp_mapUpdate lookG_some updG_some mapV kyOf vlOf lookV vlV buildA afterCall inst inst1
attribute [local simp] inst1s instD instDs RetA resVs resV gives give1 give1s Le isPin leSlots
attribute [local simp] leS leTmps leV le0 le0s ren ren0 renS ren0s frame enterT afterT_some
attribute [local simp] afterC_some lives Slot.live arrsOk viewV view0 renT rens renSs setAll List.range'_succ RetT
attribute [local simp] RetW joinV leT AOpsE_nil AOpsE_cons AOpsT_nil AOpsT_cons isCallT isFnO callOf callVC_fn condC_true
attribute [local simp] condC_false beginT_mk thenT_mk pickE pickT isT loose namesOf namesV names1 names0 stableN
attribute [local simp] sameAt Op.operands Call.operands
structure BkOk (M:Nat) (es:Es):Prop where
 nd:(keyE es).Nodup
 lt:∀ t∈keyE es,t<M
 src:∀ p∈es,-1≤p.2∧p.2<M
theorem BkOk.vis {M:Nat} {es:Es} (h:BkOk M es) {t:Nat} {z:Int} (ht:t<M) (hz:-1≤z∧z<M):BkOk M (visG z es t):=by
 unfold visG
 split
 · exact h
 · rename_i hm
   refine⟨?_,fun u hu=>?_,fun p hp=>?_⟩
   · simp only[keyE,List.map_append,List.map_cons,List.map_nil] at hm ⊢
     exact List.nodup_append.2 ⟨h.nd,by simp,fun a ha b hb=>by
      simp only[List.mem_singleton] at hb
      subst hb
      exact fun e=>hm (e▸ha)⟩
   · simp only[keyE,List.map_append,List.map_cons,List.map_nil,List.mem_append,List.mem_singleton] at hu
     rcases hu with hu|rfl
     · exact h.lt u hu
     · exact ht
   · rcases List.mem_append.1 hp with hp|hp
     · exact h.src p hp
     · rw[List.mem_singleton.1 hp];exact hz
theorem BkOk.all {M:Nat} {z:Int} (hz:-1≤z∧z<M):∀ {ts:List Nat} {es:Es},BkOk M es→(∀ t∈ts,t<M)→BkOk M (ts.foldl (visG z) es)
 | [],es,h,_=>h
 | t::ts,es,h,ht=>by
   rw[List.foldl_cons]
   exact BkOk.all hz (h.vis (ht t (by simp)) hz) fun u hu=>ht u (by simp[hu])
theorem BkOk.len {M:Nat} {es:Es} (h:BkOk M es):es.length≤M:=by
 have:(keyE es).length≤(List.range M).length:=h.nd.length_le_of_subset fun t ht=>List.mem_range.2 (h.lt t ht)
 simpa [keyE] using this
--@L17
end Go.Proofs.Ytklhofpjjbfckaa
