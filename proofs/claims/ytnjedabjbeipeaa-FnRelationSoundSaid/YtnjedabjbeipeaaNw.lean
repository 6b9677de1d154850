/-
  States and cycles of a graph, by abstract walks.
  Conditions: those typed in each theorem.
-/
import Derived.Test.YtnjedabjbeipeaaNv
namespace Go.Proofs.Ytnjedabjbeipeaa
open Go.RowKit Go.ChangeShapes Go.WideShapes
set_option linter.unusedVariables false
set_option linter.unusedSimpArgs false
attribute [local simp ↓] condG_true condG_false condB_true condB_false
attribute [local simp] AWp_skip AWp_region_t AWp_region_d AWp_region_f still_mk AWp_seq AWp_cond condV_bool condB AWp_block AWp_exit AWp_ret
attribute [local simp] AOps_nil AOp_move AOp_assign AOp_pick AOp_binOp AOp_unOp AOp_convert AOp_len AOp_max AOp_min AOp_indexAddr AOp_load
attribute [local simp] AOp_fieldAddr AOp_field AOp_extract AOp_nilCheck AOp_build AOp_alloc AOp_box AOp_call AOp_store AOp_append AOp_buildSlice nextB_some
attribute [local simp] nextB_none adoptO adoptC AOp_makeSlice AOp_slice AOp_makeFunc AOp_guard guardD_some guardG_bool guardG_undef nextO_some nextS_some
attribute [local simp] nextZ_some nextL_some nextM_some nextT_some sliceO sliceL sliceT partO partV boundV funcO pickO
attribute [local simp] convO lenO maxO minO idxO extO nilO buildO litO litC makeO chunks
attribute [local simp] fillV placeOf thenA inBlockA St.get St.put St.eval ofCell evalT abin_add abin_sub abin_mul
attribute [local simp] abin_quo abin_rem abin_and abin_or abin_xor abin_andNot abin_shl abin_shr abin_shlu abin_eql abin_eqp abin_neq
attribute [local simp] abin_lss abin_leq abin_gtr abin_geq abin_eqlb abin_neqb aun pickV lenV intOf? indexV takeD
attribute [local simp] takeV loadV fieldAddrV fieldV ofX presD presDs pres presAll cellsV V.cell storeV
attribute [local simp] freezeC putAt kill takeC plains plainV scalarV nat_neg keepT sets eSl e1
attribute [local simp] e2 e3 e4 eInt eBool abinS_d abinS_agg abinS nilEq abin_eqb AOp_makeMap AOp_lookup
attribute [local simp] AOp_mapUpdate lookG_some updG_some mapV kyOf vlOf lookV vlV buildA afterCall inst inst1
attribute [local simp] inst1s instD instDs RetA resVs resV gives give1 give1s Le isPin leSlots
attribute [local simp] leS leTmps leV le0 le0s ren ren0 renS ren0s frame enterT afterT_some
attribute [local simp] afterC_some lives Slot.live arrsOk viewV view0 renT rens renSs setAll List.range'_succ RetT
attribute [local simp] RetW joinV leT AOpsE_nil AOpsE_cons AOpsT_nil AOpsT_cons isCallT isFnO callOf callVC_fn condC_true
attribute [local simp] condC_false beginT_mk beginX_mk AOpsX_zero thenT_mk pickE pickT isT loose namesOf namesV names1
attribute [local simp] names0 stableN sameAt Op.operands Call.operands
def startL (x:GrD):List Int:=x.2.1.map (·.2.1)
theorem netStart_con (x:GrD) (hx:fitGr 1048576 x):ConC Try.prog 39 [igr x] (ints (startL x)):=by
 obtain⟨f1,f2,f3,f5⟩:=hx
 have hsl:startL x=(startL x).take x.2.1.length:=by rw[List.take_of_length_le (by simp[startL])]
 rw[hsl]
 refine con_of (by kernel_rfl) Try.func39 rfl rfl rfl ?_
 simp[enGr]
 refine aw_loopN [false,false,false,true,false,false,false,true,true,true,false,false,false,false,false,false,false,false,false,false] (fun k:Nat=>k≤x.2.1.length) (fun k:Nat=>[(3,nilR k 1),(9,.d (.int .i64 k))]) (fun k:Nat=>nilS k ((startL x).take k)) (fun k:Nat=>x.2.1.length - k) 0 ?_ ?_ ?_
 · simp
 · exact⟨[0],by simp[nilR,nilS]⟩
 rintro I S μ hI hS hμ k hk
 by_cases hlt:k<x.2.1.length
 · have hx1:x.2.1[k]? = some x.2.1[k]:=List.getElem?_eq_getElem hlt
   have hL:(enSeq x.2.1[k]).length=3:=rfl
   have hnx:(startL x).take (k+1)=(startL x).take k++[x.2.1[k].2.1]:=take_snoc' (by simp[startL,hx1])
   have w2:IntKind.i64.wrap ((k:Int)+1)=(k:Int)+1:=wrap_id (by omega) (by omega)
   generalize x.2.1[k]=s at *
   have hd:decide (k<x.2.1.length)=true:=decide_eq_true hlt
   by_cases hk0:k=0
   · subst hk0
     have w20:IntKind.i64.wrap 1=1:=by decide
     simp[nilR,nilS,hd,hx1,hL,enSeq]
     refine app_data vt_el_26 rfl (by simp) rfl (by simp) (by simp) (by first | (simp;done)|(simp;omega)) (by simp[flatP,flatD]) ?_
     simp[w20]
     exact round_of hI hS hμ 1 (by omega) (by omega) ⟨[0,3],by simp[nilR,nilS,hnx]⟩
   · simp[nilR,nilS,hd,hx1,hL,enSeq,hk0]
     refine app_data vt_el_26 rfl (by simp) rfl (by simp) (by simp) (by first | (simp;done)|(simp;omega)) (by simp[flatP,flatD]) ?_
     simp[w2]
     exact round_of hI hS hμ (k+1) (by omega) (by omega) ⟨[0,4],by simp[nilR,nilS,hnx]⟩
 · have hk':k=x.2.1.length:=by omega
   subst hk'
   by_cases hk0:x.2.1.length=0
   · simp[nilR,nilS,hk0]
   · simp[nilR,nilS,hk0]
theorem sNetStart_con (x:GrD) (hx:fitGr 1048576 x) (hg:okGr x) (hok:netOkB x=true):ConC Try.prog 17 [igr x] (ints (startL x)):=by
 have hx':=hx
 obtain⟨f1,f2,f3,f5⟩:=hx'
 have hsl:startL x=(startL x).take x.2.1.length:=by rw[List.take_of_length_le (by simp[startL])]
 rw[hsl]
 refine con_of (by kernel_rfl) Try.func17 rfl rfl rfl ?_
 simp[enGr]
 refine call_step (sNetOk_con x hx hg) ?_
 simp[hok]
 refine aw_loopU [false,true,false,true,true,false,false,false,false,false,false,false,false,false,false,false,false,false,false,false,false,false,false,false,false,false,false] (fun k:Nat=>k≤x.2.1.length) (fun k:Nat=>[(3,.ref 1),(4,.d (.int .i64 k))]) (fun k:Nat=>[(1,.arr 3 true (((startL x).take k).map (e1 eInt)))]) (fun k:Nat=>x.2.1.length - k) 0 ?_ ?_ ?_
 · simp
 · exact⟨[0,1],by simp⟩
 rintro I S μ hI hS hμ k hk
 by_cases hlt:k<x.2.1.length
 · have hx1:x.2.1[k]? = some x.2.1[k]:=List.getElem?_eq_getElem hlt
   have hL:(enSeq x.2.1[k]).length=3:=rfl
   have hnx:(startL x).take (k+1)=(startL x).take k++[x.2.1[k].2.1]:=take_snoc' (by simp[startL,hx1])
   have w2:IntKind.i64.wrap ((k:Int)+1)=(k:Int)+1:=wrap_id (by omega) (by omega)
   generalize x.2.1[k]=s at *
   have hd:decide (k<x.2.1.length)=true:=decide_eq_true hlt
   simp[hd,hx1,hL,enSeq]
   refine app_data vt_el_26 rfl (by simp) rfl (by simp) (by simp) (by first | (simp;done)|(simp;omega)) (by simp[flatP,flatD]) ?_
   simp[w2]
   exact round_of hI hS hμ (k+1) (by omega) (by omega) ⟨[0,3],by simp[hnx]⟩
 · have hk':k=x.2.1.length:=by omega
   subst hk'
   simp[hlt]
end Go.Proofs.Ytnjedabjbeipeaa
