/-
  Nets as they are drawn: the result as data, or with one of its rows owned. By abstract walks.
  Conditions: those typed in each theorem.
-/
import Derived.Test.YtnjedabjbeipeaaSc
namespace Go.Proofs.Ytnjedabjbeipeaa
open Go.RowKit Go.ChangeShapes Go.WideShapes
set_option linter.unusedVariables false
set_option linter.unusedSimpArgs false
attribute [local simp ↓] condG_true condG_false condB_true condB_false
attribute [local simp] AWp_skip AWp_region_t AWp_region_d AWp_region_f still_mk AWp_seq AWp_cond condV_bool condB AWp_block AWp_exit AWp_ret
attribute [local simp] AOps_nil AOp_move AOp_assign AOp_pick AOp_binOp AOp_unOp AOp_convert AOp_len AOp_max AOp_min AOp_indexAddr AOp_load
attribute [local simp] AOp_fieldAddr AOp_field AOp_extract AOp_nilCheck AOp_build AOp_alloc AOp_box AOp_call AOp_store AOp_append AOp_buildSlice nextB_some
attribute [local simp] nextB_none adoptO adoptC AOp_makeSlice AOp_slice AOp_makeFunc AOp_guard guardD_some guardG_bool guardG_undef nextO_some nextS_some
attribute [local simp] nextZ_some nextL_some nextM_some nextT_some sliceO sliceL sliceT partO partV boundV funcO pickO
attribute [local simp] convO lenO maxO minO idxO extO nilO buildO litO litC makeO chunks
attribute [local simp] fillV placeOf thenA inBlockA St.get St.put St.eval ofCell evalT abin_add abin_sub abin_mul
attribute [local simp] abin_quo abin_rem abin_and abin_or abin_xor abin_andNot abin_shl abin_shr abin_shlu abin_eql abin_eqp abin_neq
attribute [local simp] abin_lss abin_leq abin_gtr abin_geq abin_eqlb abin_neqb aun pickV lenV intOf? indexV takeD
attribute [local simp] takeV loadV fieldAddrV fieldV ofX presD presDs pres presAll cellsV V.cell storeV
attribute [local simp] freezeC putAt kill takeC plains plainV scalarV nat_neg keepT sets eSl e1
attribute [local simp] e2 e3 e4 eInt eBool abinS_d abinS_agg abinS nilEq abin_eqb AOp_makeMap AOp_lookup
attribute [local simp] AOp_mapUpdate lookG_some updG_some mapV kyOf vlOf lookV vlV buildA afterCall inst inst1
attribute [local simp] inst1s instD instDs RetA resVs resV gives give1 give1s Le isPin leSlots
attribute [local simp] leS leTmps leV le0 le0s ren ren0 renS ren0s frame enterT afterT_some
attribute [local simp] afterC_some lives Slot.live arrsOk viewV view0 renT rens renSs setAll List.range'_succ RetT
attribute [local simp] RetW joinV leT AOpsE_nil AOpsE_cons AOpsT_nil AOpsT_cons isCallT isFnO callOf callVC_fn condC_true
attribute [local simp] condC_false beginT_mk beginX_mk AOpsX_zero thenT_mk pickE pickT isT loose namesOf namesV names1
attribute [local simp] names0 stableN sameAt Op.operands Call.operands
set_option maxRecDepth 100000 in
theorem netD_conT (c:Cur) (h:c.ok):ConT Try.prog 57 [.ptr 0 0] [enCur c] (.agg [.d (.int .i64 (ayG c).1),.d (eSl 31 enSeq (ayG c).2.1),.d (eSl 60 enAnd (ayG c).2.2.1),.d (eSl 3 (e1 eInt) (ayG c).2.2.2)]) [enCur (ayC c)]:=by
 have k1:=l08Ay_conT c h
 generalize ayG c=G at *
 generalize ayC c=c1 at *
 obtain⟨I,sq,an,os⟩:=G
 refine conT_ofD (by kernel_rfl) Try.func57 rfl rfl rfl (by simp[laters,Later]) (by simp[lives,Slot.live]) ?_
 by_cases hs:sq.length=0
 · by_cases ha:an.length=0
   · have hs1:sq=[]:=List.eq_nil_of_length_eq_zero hs
     subst hs1
     have ha1:an=[]:=List.eq_nil_of_length_eq_zero ha
     subst ha1
     simp only[sqV,sqS,anV,anS,List.length_nil,List.length_cons,if_true,  List.nil_append,List.cons_append] at k1 ⊢
     simp
     refine callT_step (k1) [] [0] (by simp) ?_
     simp
     exact⟨[0],by simp⟩
   · have hs1:sq=[]:=List.eq_nil_of_length_eq_zero hs
     subst hs1
     simp only[sqV,sqS,anV,anS,List.length_nil,List.length_cons,if_true,if_neg ha,List.nil_append,List.cons_append] at k1 ⊢
     simp
     refine callT_step (k1) [] [0] (by simp) ?_
     simp
     exact⟨[0],by simp⟩
 · by_cases ha:an.length=0
   · have ha1:an=[]:=List.eq_nil_of_length_eq_zero ha
     subst ha1
     simp only[sqV,sqS,anV,anS,List.length_nil,List.length_cons,if_true,if_neg hs,  List.nil_append,List.cons_append] at k1 ⊢
     simp
     refine callT_step (k1) [] [0] (by simp) ?_
     simp
     exact⟨[0],by simp⟩
   · simp only[sqV,sqS,anV,anS,List.length_nil,List.length_cons,if_true,if_neg hs,if_neg ha,List.nil_append,List.cons_append] at k1 ⊢
     simp
     refine callT_step (k1) [] [0] (by simp) ?_
     simp
     exact⟨[0],by simp⟩
set_option maxRecDepth 100000 in
theorem netO_conT (c:Cur) (h:c.ok):ConT Try.prog 57 [.ptr 0 0] [enCur c] (.agg [.d (.int .i64 (ayG c).1),.d (eSl 31 enSeq (ayG c).2.1),.d (eSl 60 enAnd (ayG c).2.2.1),.ref 1]) [enCur (ayC c),.arr 3 true ((ayG c).2.2.2.map (e1 eInt))]:=by
 have k1:=l08Ay_conT c h
 generalize ayG c=G at *
 generalize ayC c=c1 at *
 obtain⟨I,sq,an,os⟩:=G
 refine conT_ofD (by kernel_rfl) Try.func57 rfl rfl rfl (by simp[laters,Later]) (by simp[lives,Slot.live]) ?_
 by_cases hs:sq.length=0
 · by_cases ha:an.length=0
   · have hs1:sq=[]:=List.eq_nil_of_length_eq_zero hs
     subst hs1
     have ha1:an=[]:=List.eq_nil_of_length_eq_zero ha
     subst ha1
     simp only[sqV,sqS,anV,anS,List.length_nil,List.length_cons,if_true,  List.nil_append,List.cons_append] at k1 ⊢
     simp
     refine callT_step (k1) [] [0] (by simp) ?_
     simp
     exact⟨[0,2],by simp⟩
   · have hs1:sq=[]:=List.eq_nil_of_length_eq_zero hs
     subst hs1
     simp only[sqV,sqS,anV,anS,List.length_nil,List.length_cons,if_true,if_neg ha,List.nil_append,List.cons_append] at k1 ⊢
     simp
     refine callT_step (k1) [] [0] (by simp) ?_
     simp
     exact⟨[0,3],by simp⟩
 · by_cases ha:an.length=0
   · have ha1:an=[]:=List.eq_nil_of_length_eq_zero ha
     subst ha1
     simp only[sqV,sqS,anV,anS,List.length_nil,List.length_cons,if_true,if_neg hs,  List.nil_append,List.cons_append] at k1 ⊢
     simp
     refine callT_step (k1) [] [0] (by simp) ?_
     simp
     exact⟨[0,3],by simp⟩
   · simp only[sqV,sqS,anV,anS,List.length_nil,List.length_cons,if_true,if_neg hs,if_neg ha,List.nil_append,List.cons_append] at k1 ⊢
     simp
     refine callT_step (k1) [] [0] (by simp) ?_
     simp
     exact⟨[0,4],by simp⟩
set_option maxRecDepth 100000 in
theorem netA0_conT (c:Cur) (h:c.ok) (h0:(ayG c).2.2.1.length=0):ConT Try.prog 57 [.ptr 0 0] [enCur c] (.agg [.d (.int .i64 (ayG c).1),.d (eSl 31 enSeq (ayG c).2.1),.nil 60,.d (eSl 3 (e1 eInt) (ayG c).2.2.2)]) [enCur (ayC c)]:=by
 have k1:=l08Ay_conT c h
 generalize ayG c=G at *
 generalize ayC c=c1 at *
 obtain⟨I,sq,an,os⟩:=G
 simp only at h0
 refine conT_ofD (by kernel_rfl) Try.func57 rfl rfl rfl (by simp[laters,Later]) (by simp[lives,Slot.live]) ?_
 by_cases hs:sq.length=0
 · by_cases ha:an.length=0
   · have hs1:sq=[]:=List.eq_nil_of_length_eq_zero hs
     subst hs1
     have ha1:an=[]:=List.eq_nil_of_length_eq_zero ha
     subst ha1
     simp only[sqV,sqS,anV,anS,List.length_nil,List.length_cons,if_true,  List.nil_append,List.cons_append] at k1 ⊢
     simp
     refine callT_step (k1) [] [0] (by simp) ?_
     simp
     exact⟨[0],by simp⟩
   · omega
 · by_cases ha:an.length=0
   · have ha1:an=[]:=List.eq_nil_of_length_eq_zero ha
     subst ha1
     simp only[sqV,sqS,anV,anS,List.length_nil,List.length_cons,if_true,if_neg hs,  List.nil_append,List.cons_append] at k1 ⊢
     simp
     refine callT_step (k1) [] [0] (by simp) ?_
     simp
     exact⟨[0],by simp⟩
   · omega
set_option maxRecDepth 100000 in
theorem netA1_conT (c:Cur) (h:c.ok) (h0:¬ (ayG c).2.2.1.length=0):ConT Try.prog 57 [.ptr 0 0] [enCur c] (.agg [.d (.int .i64 (ayG c).1),.d (eSl 31 enSeq (ayG c).2.1),.ref 1,.d (eSl 3 (e1 eInt) (ayG c).2.2.2)]) [enCur (ayC c),.arr 60 true ((ayG c).2.2.1.map enAnd)]:=by
 have k1:=l08Ay_conT c h
 generalize ayG c=G at *
 generalize ayC c=c1 at *
 obtain⟨I,sq,an,os⟩:=G
 simp only at h0
 refine conT_ofD (by kernel_rfl) Try.func57 rfl rfl rfl (by simp[laters,Later]) (by simp[lives,Slot.live]) ?_
 by_cases hs:sq.length=0
 · by_cases ha:an.length=0
   · omega
   · have hs1:sq=[]:=List.eq_nil_of_length_eq_zero hs
     subst hs1
     simp only[sqV,sqS,anV,anS,List.length_nil,List.length_cons,if_true,if_neg ha,List.nil_append,List.cons_append] at k1 ⊢
     simp
     refine callT_step (k1) [] [0] (by simp) ?_
     simp
     exact⟨[0,2],by simp⟩
 · by_cases ha:an.length=0
   · omega
   · simp only[sqV,sqS,anV,anS,List.length_nil,List.length_cons,if_true,if_neg hs,if_neg ha,List.nil_append,List.cons_append] at k1 ⊢
     simp
     refine callT_step (k1) [] [0] (by simp) ?_
     simp
     exact⟨[0,3],by simp⟩
set_option maxRecDepth 100000 in
theorem netS0_conT (c:Cur) (h:c.ok) (h0:(ayG c).2.1.length=0):ConT Try.prog 57 [.ptr 0 0] [enCur c] (.agg [.d (.int .i64 (ayG c).1),.nil 31,.d (eSl 60 enAnd (ayG c).2.2.1),.d (eSl 3 (e1 eInt) (ayG c).2.2.2)]) [enCur (ayC c)]:=by
 have k1:=l08Ay_conT c h
 generalize ayG c=G at *
 generalize ayC c=c1 at *
 obtain⟨I,sq,an,os⟩:=G
 simp only at h0
 refine conT_ofD (by kernel_rfl) Try.func57 rfl rfl rfl (by simp[laters,Later]) (by simp[lives,Slot.live]) ?_
 by_cases hs:sq.length=0
 · by_cases ha:an.length=0
   · have hs1:sq=[]:=List.eq_nil_of_length_eq_zero hs
     subst hs1
     have ha1:an=[]:=List.eq_nil_of_length_eq_zero ha
     subst ha1
     simp only[sqV,sqS,anV,anS,List.length_nil,List.length_cons,if_true,  List.nil_append,List.cons_append] at k1 ⊢
     simp
     refine callT_step (k1) [] [0] (by simp) ?_
     simp
     exact⟨[0],by simp⟩
   · have hs1:sq=[]:=List.eq_nil_of_length_eq_zero hs
     subst hs1
     simp only[sqV,sqS,anV,anS,List.length_nil,List.length_cons,if_true,if_neg ha,List.nil_append,List.cons_append] at k1 ⊢
     simp
     refine callT_step (k1) [] [0] (by simp) ?_
     simp
     exact⟨[0],by simp⟩
 · omega
set_option maxRecDepth 100000 in
theorem netS1_conT (c:Cur) (h:c.ok) (h0:¬ (ayG c).2.1.length=0):ConT Try.prog 57 [.ptr 0 0] [enCur c] (.agg [.d (.int .i64 (ayG c).1),.ref 1,.d (eSl 60 enAnd (ayG c).2.2.1),.d (eSl 3 (e1 eInt) (ayG c).2.2.2)]) [enCur (ayC c),.arr 31 true ((ayG c).2.1.map enSeq)]:=by
 have k1:=l08Ay_conT c h
 generalize ayG c=G at *
 generalize ayC c=c1 at *
 obtain⟨I,sq,an,os⟩:=G
 simp only at h0
 refine conT_ofD (by kernel_rfl) Try.func57 rfl rfl rfl (by simp[laters,Later]) (by simp[lives,Slot.live]) ?_
 by_cases hs:sq.length=0
 · omega
 · by_cases ha:an.length=0
   · have ha1:an=[]:=List.eq_nil_of_length_eq_zero ha
     subst ha1
     simp only[sqV,sqS,anV,anS,List.length_nil,List.length_cons,if_true,if_neg hs,  List.nil_append,List.cons_append] at k1 ⊢
     simp
     refine callT_step (k1) [] [0] (by simp) ?_
     simp
     exact⟨[0,2],by simp⟩
   · simp only[sqV,sqS,anV,anS,List.length_nil,List.length_cons,if_true,if_neg hs,if_neg ha,List.nil_append,List.cons_append] at k1 ⊢
     simp
     refine callT_step (k1) [] [0] (by simp) ?_
     simp
     exact⟨[0,2],by simp⟩
end Go.Proofs.Ytnjedabjbeipeaa
