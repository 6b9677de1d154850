/-
  States and root values of a graph, by abstract walks.
  Conditions: those typed in each theorem.
-/
import Derived.Test.YtnjedabjbeipeaaNz
namespace Go.Proofs.Ytnjedabjbeipeaa
open Go.RowKit Go.ChangeShapes Go.WideShapes
set_option linter.unusedVariables false
set_option linter.unusedSimpArgs false
attribute [local simp ↓] condG_true condG_false condB_true condB_false
attribute [local simp] AWp_skip AWp_region_t AWp_region_d AWp_region_f still_mk AWp_seq AWp_cond condV_bool condB AWp_block AWp_exit AWp_ret
attribute [local simp] AOps_nil AOp_move AOp_assign AOp_pick AOp_binOp AOp_unOp AOp_convert AOp_len AOp_max AOp_min AOp_indexAddr AOp_load
attribute [local simp] AOp_fieldAddr AOp_field AOp_extract AOp_nilCheck AOp_build AOp_alloc AOp_box AOp_call AOp_store AOp_append AOp_buildSlice nextB_some
attribute [local simp] nextB_none adoptO adoptC AOp_makeSlice AOp_slice AOp_makeFunc AOp_guard guardD_some guardG_bool guardG_undef nextO_some nextS_some
attribute [local simp] nextZ_some nextL_some nextM_some nextT_some sliceO sliceL sliceT partO partV boundV funcO pickO
attribute [local simp] convO lenO maxO minO idxO extO nilO buildO litO litC makeO chunks
attribute [local simp] fillV placeOf thenA inBlockA St.get St.put St.eval ofCell evalT abin_add abin_sub abin_mul
attribute [local simp] abin_quo abin_rem abin_and abin_or abin_xor abin_andNot abin_shl abin_shr abin_shlu abin_eql abin_eqp abin_neq
attribute [local simp] abin_lss abin_leq abin_gtr abin_geq abin_eqlb abin_neqb aun pickV lenV intOf? indexV takeD
attribute [local simp] takeV loadV fieldAddrV fieldV ofX presD presDs pres presAll cellsV V.cell storeV
attribute [local simp] freezeC putAt kill takeC plains plainV scalarV nat_neg keepT sets eSl e1
attribute [local simp] e2 e3 e4 eInt eBool abinS_d abinS_agg abinS nilEq abin_eqb AOp_makeMap AOp_lookup
attribute [local simp] AOp_mapUpdate lookG_some updG_some mapV kyOf vlOf lookV vlV buildA afterCall inst inst1
attribute [local simp] inst1s instD instDs RetA resVs resV gives give1 give1s Le isPin leSlots
attribute [local simp] leS leTmps leV le0 le0s ren ren0 renS ren0s frame enterT afterT_some
attribute [local simp] afterC_some lives Slot.live arrsOk viewV view0 renT rens renSs setAll List.range'_succ RetT
attribute [local simp] RetW joinV leT AOpsE_nil AOpsE_cons AOpsT_nil AOpsT_cons isCallT isFnO callOf callVC_fn condC_true
attribute [local simp] condC_false beginT_mk beginX_mk AOpsX_zero thenT_mk pickE pickT isT loose namesOf namesV names1
attribute [local simp] names0 stableN sameAt Op.operands Call.operands
theorem iStateOkG_con (x:GrD) (st:List Int) (hx:fitGr 1048576 x) (hs:st.length≤1048576):ConC Try.prog 52 [igr x,ints st] (.d (.bool (stOkGB x st))):=by
 refine con_of (by kernel_rfl) Try.func52 rfl rfl rfl ?_
 simp[enGr]
 refine call_step (iNetOk_con x hx) ?_
 simp
 rcases Bool.eq_false_or_eq_true (netOkB x) with hok|hok
 case inr=>simp[hok,stOkGB]
 by_cases hl:st.length=x.2.1.length
 case neg =>
  have hl':((st.length:Int) != x.2.1.length)=true:=by simp;omega
  have hl2:¬ (st.length:Int)=x.2.1.length:=by omega
  simp[hok,hl',hl2,stOkGB,hl]
 simp[hok,hl]
 refine aw_loopU [false,false,true,false,false,false,false,false,false,false,false,false,false,false,false,false,false,false,true,true,true,false,false,false,false,false,false,false,false,false,false,false,false,false,false,false] (fun k:Nat=>k≤st.length∧((st.zip x.2.1).take k).all (fun p=>rng p.1 0 (seqMostL p.2.1))=true) (fun k:Nat=>[(20,.d (.int .i64 k))]) (fun k:Nat=>[]) (fun k:Nat=>st.length - k) 0 ?_ ?_ ?_
 · simp
 · exact⟨[0],by simp⟩
 rintro I S μ hI hS hμ k ⟨hk,ha⟩
 by_cases hlt:k<st.length
 · have hx1:st[k]? = some st[k]:=List.getElem?_eq_getElem hlt
   have hx2:x.2.1[k]? = some (x.2.1[k]'(by omega)):=List.getElem?_eq_getElem _
   have hL:(enSeq (x.2.1[k]'(by omega))).length=3:=rfl
   have w2:IntKind.i64.wrap ((k:Int)+1)=(k:Int)+1:=wrap_id (by omega) (by omega)
   have hz:(st.zip x.2.1)[k]? = some (st[k],x.2.1[k]'(by omega)):=by simp[List.getElem?_zip_eq_some]
   generalize st[k]=v at *
   generalize x.2.1[k]'(by omega)=s at *
   have hd:decide (k<x.2.1.length)=true:=decide_eq_true (by omega)
   have hd1:decide (k<st.length)=true:=decide_eq_true (by omega)
   simp[hd,hx1,hx2,hL,enSeq]
   refine call_step (seqMost_con s.1) ?_
   simp
   refine call_step (inr_con _ _ _) ?_
   simp
   rcases Bool.eq_false_or_eq_true (rng v 0 (seqMostL s.1)) with hr|hr
   · simp[hr,w2]
     exact round_of hI hS hμ (k+1) ⟨by omega,by rw[all_snoc' hz,ha];simp[hr]⟩ (by omega) ⟨[0],by simp⟩
   · simp[hr,stOkGB,all_not' (p:=fun p:Int×SeqD=>rng p.1 0 (seqMostL p.2.1)) hz hr]
 · have hk':k=st.length:=by omega
   subst hk'
   rw[List.take_of_length_le (by rw[List.length_zip];omega)] at ha
   simp[hlt,stOkGB,ha,hok,hl,show ¬ st.length<x.2.1.length by omega]
def lkStL (a b:GrD) (ls:List LinkD) (st:List Int):List Int:=if linksOkB a b ls=true∧stOkGB a st=true then lkL ls st else []
theorem stOk_bits {x:GrD} {st:List Int} (h:flopsB x=true) (hs:stOkGB x st=true):st.length=x.2.1.length∧bitsI st:=by
 simp only[stOkGB,Bool.and_eq_true,decide_eq_true_eq] at hs
 obtain⟨⟨_,h1⟩,h2⟩:=hs
 refine⟨h1,fun v hv=>?_⟩
 obtain⟨i,hi,rfl⟩:=List.mem_iff_getElem.1 hv
 have hz:(st[i],x.2.1[i]'(by omega))∈st.zip x.2.1:=List.mem_iff_getElem.2 ⟨i,by simp;omega,by simp⟩
 have h3:=List.all_eq_true.1 h2 _ hz
 have h4:=flops_of h _ (List.of_mem_zip hz).2
 simp only[h4] at h3
 exact rng_iff.1 h3
theorem iLinkState_con (a b:GrD) (ls:List LinkD) (st:List Int) (ha:fitGr 1048576 a) (hb:fitGr 1048576 b) (hl:fitLk 1048576 ls) (hs:st.length≤1048576):ConC Try.prog 19 [igr a,igr b,ilk ls,ints st] (ints (lkStL a b ls st)):=by
 refine con_of (by kernel_rfl) Try.func19 rfl rfl rfl ?_
 simp[enGr]
 refine call_step (iLinksOk_con a b ls ha hb hl) ?_
 simp
 rcases Bool.eq_false_or_eq_true (linksOkB a b ls) with h1|h1
 case inr=>simp[h1,lkStL]
 simp[h1]
 refine call_step (iStateOkG_con a st ha hs) ?_
 simp
 rcases Bool.eq_false_or_eq_true (stOkGB a st) with h2|h2
 case inr=>simp[h2,lkStL]
 obtain⟨oa,ob,fa,fb,ll,lin⟩:=linksOk_of h1
 obtain⟨k1,k2⟩:=stOk_bits fa h2
 simp[h2,lkStL,h1]
 refine call_step (linkState_con ls st hl.1 hs k2 (lin _ k1)) ?_
 simp
end Go.Proofs.Ytnjedabjbeipeaa
