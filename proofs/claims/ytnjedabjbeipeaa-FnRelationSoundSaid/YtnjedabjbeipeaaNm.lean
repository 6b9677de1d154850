/-
  Links: valid links, both sides, by abstract walks.
  Conditions: those typed in each theorem.
-/
import Derived.Test.YtnjedabjbeipeaaNd
import Derived.Test.YtnjedabjbeipeaaNk
namespace Go.Proofs.Ytnjedabjbeipeaa
open Go.RowKit Go.ChangeShapes Go.WideShapes
set_option linter.unusedVariables false
set_option linter.unusedSimpArgs false
attribute [local simp ↓] condG_true condG_false condB_true condB_false
attribute [local simp] AWp_skip AWp_region_t AWp_region_d AWp_region_f still_mk AWp_seq AWp_cond condV_bool condB AWp_block AWp_exit AWp_ret
attribute [local simp] AOps_nil AOp_move AOp_assign AOp_pick AOp_binOp AOp_unOp AOp_convert AOp_len AOp_max AOp_min AOp_indexAddr AOp_load
attribute [local simp] AOp_fieldAddr AOp_field AOp_extract AOp_nilCheck AOp_build AOp_alloc AOp_box AOp_call AOp_store AOp_append AOp_buildSlice nextB_some
attribute [local simp] nextB_none adoptO adoptC AOp_makeSlice AOp_slice AOp_makeFunc AOp_guard guardD_some guardG_bool guardG_undef nextO_some nextS_some
attribute [local simp] nextZ_some nextL_some nextM_some nextT_some sliceO sliceL sliceT partO partV boundV funcO pickO
attribute [local simp] convO lenO maxO minO idxO extO nilO buildO litO litC makeO chunks
attribute [local simp] fillV placeOf thenA inBlockA St.get St.put St.eval ofCell evalT abin_add abin_sub abin_mul
attribute [local simp] abin_quo abin_rem abin_and abin_or abin_xor abin_andNot abin_shl abin_shr abin_shlu abin_eql abin_eqp abin_neq
attribute [local simp] abin_lss abin_leq abin_gtr abin_geq abin_eqlb abin_neqb aun pickV lenV intOf? indexV takeD
attribute [local simp] takeV loadV fieldAddrV fieldV ofX presD presDs pres presAll cellsV V.cell storeV
attribute [local simp] freezeC putAt kill takeC plains plainV scalarV nat_neg keepT sets eSl e1
attribute [local simp] e2 e3 e4 eInt eBool abinS_d abinS_agg abinS nilEq abin_eqb AOp_makeMap AOp_lookup
attribute [local simp] AOp_mapUpdate lookG_some updG_some mapV kyOf vlOf lookV vlV buildA afterCall inst inst1
attribute [local simp] inst1s instD instDs RetA resVs resV gives give1 give1s Le isPin leSlots
attribute [local simp] leS leTmps leV le0 le0s ren ren0 renS ren0s frame enterT afterT_some
attribute [local simp] afterC_some lives Slot.live arrsOk viewV view0 renT rens renSs setAll List.range'_succ RetT
attribute [local simp] RetW joinV leT AOpsE_nil AOpsE_cons AOpsT_nil AOpsT_cons isCallT isFnO callOf callVC_fn condC_true
attribute [local simp] condC_false beginT_mk beginX_mk AOpsX_zero thenT_mk pickE pickT isT loose namesOf namesV names1
attribute [local simp] names0 stableN sameAt Op.operands Call.operands
def linkFits (n:Int) (l:LinkD):Bool:=tableOkB l.1.length l.2&&belowB l.1 n
def linksFit (n:Int) (ls:List LinkD):Bool:=ls.all (linkFits n)
def linksOkB (a b:GrD) (ls:List LinkD):Bool :=
 netOkB a&&netOkB b&&flopsB a&&flopsB b&&decide (a.1=b.1)&&decide (a.2.2.2.length=b.2.2.2.length)&&decide (ls.length=b.2.1.length)&&linksFit a.2.1.length ls
set_option maxRecDepth 100000 in
set_option maxHeartbeats 1000000 in
theorem iLinksOk_con (a b:GrD) (ls:List LinkD) (ha:fitGr 1048576 a) (hb:fitGr 1048576 b) (hl:fitLk 1048576 ls):ConC Try.prog 16 [igr a,igr b,ilk ls] (.d (.bool (linksOkB a b ls))):=by
 refine con_of (by kernel_rfl) Try.func16 rfl rfl rfl ?_
 simp[enGr]
 refine call_step (iNetOk_con a ha) ?_
 simp
 rcases Bool.eq_false_or_eq_true (netOkB a) with h1|h1
 case inr=>simp[h1,linksOkB]
 simp[h1]
 refine call_step (iNetOk_con b hb) ?_
 simp
 rcases Bool.eq_false_or_eq_true (netOkB b) with h2|h2
 case inr=>simp[h2,linksOkB]
 simp[h2]
 refine call_step (iFlops_con a ha) ?_
 simp
 rcases Bool.eq_false_or_eq_true (flopsB a) with h3|h3
 case inr=>simp[h3,linksOkB]
 simp[h3]
 refine call_step (iFlops_con b hb) ?_
 simp
 rcases Bool.eq_false_or_eq_true (flopsB b) with h4|h4
 case inr=>simp[h4,linksOkB]
 obtain⟨a0,a1,a2,a3⟩:=a
 obtain⟨b0,b1,b2,b3⟩:=b
 by_cases e1:a0=b0
 case neg=>simp[h4,show (a0 != b0)=true by simpa using e1,e1,linksOkB]
 have e1':(a0 != b0)=false:=by simpa using e1
 by_cases e2:a3.length=b3.length
 case neg=>simp[h4,e1',show ((a3.length:Int) != (b3.length:Int))=true by simp;omega,e2,linksOkB]
 have e2':((a3.length:Int) != (b3.length:Int))=false:=by simp;omega
 by_cases e3:ls.length=b1.length
 case neg=>simp[h4,e1',e2',show ((ls.length:Int) != (b1.length:Int))=true by simp;omega,show ¬ (ls.length:Int)=(b1.length:Int) by omega,e3,linksOkB]
 have e3':((ls.length:Int) != (b1.length:Int))=false:=by simp;omega
 have e3'':(ls.length:Int)=(b1.length:Int):=by omega
 have hB:linksOkB (a0,a1,a2,a3) (b0,b1,b2,b3) ls=linksFit a1.length ls:=by unfold linksOkB;rw[h1,h2,h3,h4,decide_eq_true (p:=a0=b0) e1,decide_eq_true (p:=a3.length=b3.length) e2,decide_eq_true (p:=ls.length=b1.length) e3];rfl
 rw[hB]
 have la:a1.length≤1048576:=ha.1
 simp[h4,e1',e2',e3',e3'']
 refine aw_loopU [false,false,false,true,false,false,false,false,false,false,false,false,false,false,false,false,false,false,false,false,false,false,false,false,false,false,false,false,false,false,false,false,false,false,false,false,false,false,false,false,false,false,false,false,false,false,false,false,false,false,false,true,true,true,false,false,false,false,false,false,false,false,false,false,false,false,false,false,false,false,false,false,false,false,false,false,false,false,false,false,false] (fun k:Nat=>k≤ls.length∧(ls.take k).all (linkFits a1.length)=true) (fun k:Nat=>[(53,.d (.int .i64 k))]) (fun k:Nat=>[]) (fun k:Nat=>ls.length - k) 0 ?_ ?_ ?_
 · exact⟨by simp,rfl⟩
 · exact⟨[0,1],by simp⟩
 rintro I S μ hI hS hμ k ⟨hk,hp⟩
 by_cases hlt:k<ls.length
 · have hx1:ls[k]? = some ls[k]:=List.getElem?_eq_getElem hlt
   have hL:(enLink ls[k]).length=2:=rfl
   have w2:IntKind.i64.wrap ((k:Int)+1)=(k:Int)+1:=wrap_id (by have:=hl.1;omega) (by have:=hl.1;omega)
   have hs:=hl.2 _ (List.getElem_mem hlt)
   generalize ls[k]=s at *
   have hz:linkFits a1.length s=false→linksFit a1.length ls=false:=all_not' hx1
   have hd:decide (k<ls.length)=true:=decide_eq_true hlt
   have hd':decide (k<b1.length)=true:=decide_eq_true (by omega)
   by_cases h4':s.1.length≤4
   case neg =>
    have ht:tableOkB s.1.length s.2=false:=by
     cases h:tableOkB s.1.length s.2 with
     | false=>rfl
     | true=>exact absurd (tableOk_le h) h4'
    simp[hd,hd',hx1,hL,enLink,show (4:Int)<s.1.length by omega,show ¬ (s.1.length:Int)≤4 by omega,hz (by simp[linkFits,ht])]
   simp[hd,hd',hx1,hL,enLink,show ¬ (4:Int)<s.1.length by omega]
   refine call_step (nodesBelow_con' s.1 a1.length (by omega) (by omega)) ?_
   simp
   rcases Bool.eq_false_or_eq_true (belowB s.1 a1.length) with q1|q1
   case inr=>simp[q1,hz (by simp[linkFits,q1])]
   simp[q1]
   refine call_step (iTableOk_con _ _) ?_
   simp
   rcases Bool.eq_false_or_eq_true (tableOkB s.1.length s.2) with q2|q2
   case inr=>simp[q2,hz (by simp[linkFits,q2])]
   simp[q2,w2]
   exact round_of hI hS hμ (k+1) ⟨by omega,by rw[all_snoc' hx1,hp];simp[linkFits,q1,q2]⟩ (by omega) ⟨[0,1],by simp⟩
 · have hk':k=ls.length:=by omega
   rw[hk',List.take_length] at hp
   have hp':linksFit a1.length ls=true:=hp
   simp[hlt,show ¬ k<b1.length by omega,hp']
set_option maxRecDepth 100000 in
set_option maxHeartbeats 1000000 in
theorem sLinksOk_con (a b:GrD) (ls:List LinkD) (ha:fitGr 1048576 a) (hb:fitGr 1048576 b) (hl:fitLk 1048576 ls) (ga:okGr a) (gb:okGr b):ConC Try.prog 45 [igr a,igr b,ilk ls] (.d (.bool (linksOkB a b ls))):=by
 refine con_of (by kernel_rfl) Try.func45 rfl rfl rfl ?_
 simp[enGr]
 refine call_step (sNetOk_con a ha ga) ?_
 simp
 rcases Bool.eq_false_or_eq_true (netOkB a) with h1|h1
 case inr=>simp[h1,linksOkB]
 simp[h1]
 refine call_step (sNetOk_con b hb gb) ?_
 simp
 rcases Bool.eq_false_or_eq_true (netOkB b) with h2|h2
 case inr=>simp[h2,linksOkB]
 simp[h2]
 refine call_step (sFlops_con a ha) ?_
 simp
 rcases Bool.eq_false_or_eq_true (flopsB a) with h3|h3
 case inr=>simp[h3,linksOkB]
 simp[h3]
 refine call_step (sFlops_con b hb) ?_
 simp
 rcases Bool.eq_false_or_eq_true (flopsB b) with h4|h4
 case inr=>simp[h4,linksOkB]
 obtain⟨a0,a1,a2,a3⟩:=a
 obtain⟨b0,b1,b2,b3⟩:=b
 by_cases e1:a0=b0
 case neg=>simp[h4,show (a0 != b0)=true by simpa using e1,e1,linksOkB]
 have e1':(a0 != b0)=false:=by simpa using e1
 by_cases e2:a3.length=b3.length
 case neg=>simp[h4,e1',show ((a3.length:Int) != (b3.length:Int))=true by simp;omega,e2,linksOkB]
 have e2':((a3.length:Int) != (b3.length:Int))=false:=by simp;omega
 by_cases e3:ls.length=b1.length
 case neg=>simp[h4,e1',e2',show ((ls.length:Int) != (b1.length:Int))=true by simp;omega,show ¬ (ls.length:Int)=(b1.length:Int) by omega,e3,linksOkB]
 have e3':((ls.length:Int) != (b1.length:Int))=false:=by simp;omega
 have e3'':(ls.length:Int)=(b1.length:Int):=by omega
 have hB:linksOkB (a0,a1,a2,a3) (b0,b1,b2,b3) ls=linksFit a1.length ls:=by unfold linksOkB;rw[h1,h2,h3,h4,decide_eq_true (p:=a0=b0) e1,decide_eq_true (p:=a3.length=b3.length) e2,decide_eq_true (p:=ls.length=b1.length) e3];rfl
 rw[hB]
 have la:a1.length≤1048576:=ha.1
 simp[h4,e1',e2',e3',e3'']
 refine aw_loopU [false,false,true,true,false,false,false,true,false,false,false,false,false,false,false,false,false,false,false,false,false,false,false,false,false,false,false,false,false,false,false,false,false,false,false,false,false,false,false,false,false,false,false,false,false,false,false,false,false,false,false,false,false,false,false,false,false,false,false,false,false,false,false,false,false,false,false,false,false,false,false,false,false,false,false,false,false,false,false,false,false,false] (fun k:Nat=>k≤ls.length∧(ls.take k).all (linkFits a1.length)=true) (fun k:Nat=>[(7,.d (.int .i64 k))]) (fun k:Nat=>[]) (fun k:Nat=>ls.length - k) 0 ?_ ?_ ?_
 · exact⟨by simp,rfl⟩
 · exact⟨[0,1],by simp⟩
 rintro I S μ hI hS hμ k ⟨hk,hp⟩
 by_cases hlt:k<ls.length
 · have hx1:ls[k]? = some ls[k]:=List.getElem?_eq_getElem hlt
   have hL:(enLink ls[k]).length=2:=rfl
   have w2:IntKind.i64.wrap ((k:Int)+1)=(k:Int)+1:=wrap_id (by have:=hl.1;omega) (by have:=hl.1;omega)
   have hs:=hl.2 _ (List.getElem_mem hlt)
   generalize ls[k]=s at *
   have hz:linkFits a1.length s=false→linksFit a1.length ls=false:=all_not' hx1
   have hd:decide (k<ls.length)=true:=decide_eq_true hlt
   have hd':decide (k<b1.length)=true:=decide_eq_true (by omega)
   simp[hd,hd',hx1,hL,enLink]
   refine⟨by kernel_rfl,?_⟩
   refine call_step (sTableOk_con _ _) ?_
   simp
   rcases Bool.eq_false_or_eq_true (tableOkB s.1.length s.2) with q2|q2
   case inr=>simp[q2,hz (by simp[linkFits,q2])]
   simp[q2,hx1,hL,enLink]
   refine call_step (sBelow_con s.1 a1.length (by omega) (by omega)) ?_
   simp
   rcases Bool.eq_false_or_eq_true (belowB s.1 a1.length) with q1|q1
   case inr=>simp[q1,hz (by simp[linkFits,q1])]
   simp[q1,w2]
   exact round_of hI hS hμ (k+1) ⟨by omega,by rw[all_snoc' hx1,hp];simp[linkFits,q1,q2]⟩ (by omega) ⟨[0,1],by simp⟩
 · have hk':k=ls.length:=by omega
   rw[hk',List.take_length] at hp
   have hp':linksFit a1.length ls=true:=hp
   simp[hlt,show ¬ k<b1.length by omega,hp']
end Go.Proofs.Ytnjedabjbeipeaa
