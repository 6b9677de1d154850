/-
  Valid graphs: both sides, by abstract walks.
  Conditions: those typed in each theorem.
-/
import Derived.Test.YtnjedabjbeipeaaNb
namespace Go.Proofs.Ytnjedabjbeipeaa
open Go.RowKit Go.ChangeShapes Go.WideShapes
set_option linter.unusedVariables false
set_option linter.unusedSimpArgs false
attribute [local simp ↓] condG_true condG_false condB_true condB_false
attribute [local simp] AWp_skip AWp_region_t AWp_region_d AWp_region_f still_mk AWp_seq AWp_cond condV_bool condB AWp_block AWp_exit AWp_ret
attribute [local simp] AOps_nil AOp_move AOp_assign AOp_pick AOp_binOp AOp_unOp AOp_convert AOp_len AOp_max AOp_min AOp_indexAddr AOp_load
attribute [local simp] AOp_fieldAddr AOp_field AOp_extract AOp_nilCheck AOp_build AOp_alloc AOp_box AOp_call AOp_store AOp_append AOp_buildSlice nextB_some
attribute [local simp] nextB_none adoptO adoptC AOp_makeSlice AOp_slice AOp_makeFunc AOp_guard guardD_some guardG_bool guardG_undef nextO_some nextS_some
attribute [local simp] nextZ_some nextL_some nextM_some nextT_some sliceO sliceL sliceT partO partV boundV funcO pickO
attribute [local simp] convO lenO maxO minO idxO extO nilO buildO litO litC makeO chunks
attribute [local simp] fillV placeOf thenA inBlockA St.get St.put St.eval ofCell evalT abin_add abin_sub abin_mul
attribute [local simp] abin_quo abin_rem abin_and abin_or abin_xor abin_andNot abin_shl abin_shr abin_shlu abin_eql abin_eqp abin_neq
attribute [local simp] abin_lss abin_leq abin_gtr abin_geq abin_eqlb abin_neqb aun pickV lenV intOf? indexV takeD
attribute [local simp] takeV loadV fieldAddrV fieldV ofX presD presDs pres presAll cellsV V.cell storeV
attribute [local simp] freezeC putAt kill takeC plains plainV scalarV nat_neg keepT sets eSl e1
attribute [local simp] e2 e3 e4 eInt eBool abinS_d abinS_agg abinS nilEq abin_eqb AOp_makeMap AOp_lookup
attribute [local simp] AOp_mapUpdate lookG_some updG_some mapV kyOf vlOf lookV vlV buildA afterCall inst inst1
attribute [local simp] inst1s instD instDs RetA resVs resV gives give1 give1s Le isPin leSlots
attribute [local simp] leS leTmps leV le0 le0s ren ren0 renS ren0s frame enterT afterT_some
attribute [local simp] afterC_some lives Slot.live arrsOk viewV view0 renT rens renSs setAll List.range'_succ RetT
attribute [local simp] RetW joinV leT AOpsE_nil AOpsE_cons AOpsT_nil AOpsT_cons isCallT isFnO callOf callVC_fn condC_true
attribute [local simp] condC_false beginT_mk beginX_mk AOpsX_zero thenT_mk pickE pickT isT loose namesOf namesV names1
attribute [local simp] names0 stableN sameAt Op.operands Call.operands
def andFits (n:Int) (a:AndD):Bool:=rng a.1 0 (2*n - 1)&&rng a.2 0 (2*n - 1)
def andsFit (f:Int):Nat→List AndD→Bool
 | _,[]=>true
 | k,x::xs=>andFits (f+k) x&&andsFit f (k+1) xs
theorem andsFit_drop {f:Int}:∀ {xs:List AndD} {k j:Nat},andsFit f j xs=(andsFit f j (xs.take k)&&andsFit f (j+k) (xs.drop k))
 | [],k,j=>by simp[andsFit]
 | x::xs,0,j=>by simp[andsFit]
 | x::xs,k+1,j=>by
   simp only[List.take_succ_cons,List.drop_succ_cons,andsFit]
   rw[andsFit_drop (xs:=xs) (k:=k),Bool.and_assoc,show j+1+k=j+(k+1) by omega]
theorem andsFit_snoc {f:Int} {xs:List AndD} {k:Nat} {x:AndD} (hx:xs[k]? = some x):andsFit f 0 (xs.take (k+1))=(andsFit f 0 (xs.take k)&&andFits (f+k) x):=by
 rw[andsFit_drop (xs:=xs.take (k+1)) (k:=k),take_snoc' hx]
 have hk:(xs.take k).length=k:=by have:=(List.getElem?_eq_some_iff.1 hx).1;simp;omega
 rw[List.take_append_of_le_length (by omega),List.take_of_length_le (by omega),List.drop_append_of_le_length (by omega),List.drop_of_length_le (by omega)]
 simp[andsFit]
theorem andsFit_not {f:Int} {xs:List AndD} {k:Nat} {x:AndD} (hx:xs[k]? = some x) (h:andFits (f+k) x=false):andsFit f 0 xs=false:=by
 rw[andsFit_drop (k:=k+1),andsFit_snoc hx,h]
 simp
def netOkB (x:GrD):Bool:=decide (nodesG x≠0)&&x.2.1.all seqOkB&&belowB (grRoots x) (2*nodesG x)&&andsFit (1+x.1+x.2.1.length) 0 x.2.2.1
def okGr (x:GrD):Prop:=(∀ y∈x.2.2.2,isI y)∧(∀ s∈x.2.1,isI s.1∧isI s.2.1∧∀ y∈s.2.2,isI y)∧(∀ a∈x.2.2.1,isI a.1∧isI a.2)∧isI x.1
theorem okGr_roots {x:GrD} (h:okGr x):∀ y∈grRoots x,isI y:=by
 intro y hy
 rcases List.mem_append.1 hy with hy|hy
 · exact h.1 y hy
 · obtain⟨l,hl,hy⟩:=List.mem_flatten.1 hy
   obtain⟨s,hs,rfl⟩:=List.mem_map.1 hl
   exact (h.2.1 s hs).2.2 y hy
theorem iNetOk_con (x:GrD) (hx:fitGr 1048576 x):ConC Try.prog 41 [igr x] (.d (.bool (netOkB x))):=by
 have hx':=hx
 obtain⟨f1,f2,f3,f5⟩:=hx'
 refine con_of (by kernel_rfl) Try.func41 rfl rfl rfl ?_
 simp[enGr]
 refine call_step (iNodeCount_con x) ?_
 simp
 refine⟨fun h=>by simp[netOkB,h],fun hn=>?_⟩
 obtain⟨n1,n2,n3,n4,n5,n6⟩:=nodesG_pos hn
 refine aw_loopU [false,true,false,true,false,false,false,false,false,false,false,false,false,false,false,false,true,true,true,false,false,false,false,false,false,false,false,false,false,false,false,false,false,false,false,false,false,false,false,false,false,false,false,false,false,false,false,false,false,false,false,false,false,false,false,false,false,false,false,false,false,false,false,false,false,false,false] (fun k:Nat=>k≤x.2.1.length∧(x.2.1.take k).all seqOkB=true) (fun k:Nat=>[(18,.d (.int .i64 k))]) (fun k:Nat=>[]) (fun k:Nat=>x.2.1.length - k) 0 ?_ ?_ ?_
 · exact⟨by simp,rfl⟩
 · exact⟨[0],by simp⟩
 rintro I S μ hI hS hμ k ⟨hk,ha⟩
 by_cases hlt:k<x.2.1.length
 · have hx1:x.2.1[k]? = some x.2.1[k]:=List.getElem?_eq_getElem hlt
   have hL:(enSeq x.2.1[k]).length=3:=rfl
   have w2:IntKind.i64.wrap ((k:Int)+1)=(k:Int)+1:=wrap_id (by omega) (by omega)
   generalize x.2.1[k]=s at *
   have hd:decide (k<x.2.1.length)=true:=decide_eq_true hlt
   simp[hd,hx1,hL,enSeq]
   refine call_step (seqOk_con s) ?_
   simp
   rcases Bool.eq_false_or_eq_true (seqOkB s) with h1|h1
   case inr=>simp[h1,netOkB,all_not' (p:=seqOkB) hx1 h1]
   simp[h1,w2]
   exact round_of hI hS hμ (k+1) ⟨by omega,by rw[all_snoc' hx1,ha,h1];rfl⟩ (by omega) ⟨[0],by simp⟩
 have hk':k=x.2.1.length:=by omega
 rw[hk',List.take_length] at ha
 simp[hlt]
 refine call_step (iRoots_con x hx n3) ?_
 simp
 have hrl:=grK_len (x:=x) (k:=x.2.1.length) (M:=1048576) f2
 rw[grK_all] at hrl
 generalize hR:grRoots x=R at *
 refine aw_loopU [false,true,false,true,false,false,false,false,false,false,false,false,false,false,false,false,false,false,false,false,false,false,false,false,false,false,false,true,true,true,false,false,false,false,false,false,false,false,false,false,false,false,false,false,false,false,false,false,false,false,false,false,false,false,false,false,false,false,false,false,false,false,false,false,false,false,false] (fun k:Nat=>k≤R.length∧(R.take k).all (fun y=>rng y 0 (2*nodesG x - 1))=true) (fun k:Nat=>[(29,.d (.int .i64 k))]) (fun k:Nat=>[]) (fun k:Nat=>R.length - k) 0 ?_ ?_ ?_
 · exact⟨by simp,rfl⟩
 · exact⟨[0,1],by simp⟩
 clear hI hS hμ
 rintro I S μ hI hS hμ k ⟨hk,hb⟩
 by_cases hlt:k<R.length
 · have hx1:R[k]? = some R[k]:=List.getElem?_eq_getElem hlt
   have w2:IntKind.i64.wrap ((k:Int)+1)=(k:Int)+1:=wrap_id (by omega) (by omega)
   have w3:IntKind.i64.wrap (2*nodesG x)=2*nodesG x:=wrap_id (by omega) (by omega)
   have w4:IntKind.i64.wrap (2*nodesG x - 1)=2*nodesG x - 1:=wrap_id (by omega) (by omega)
   generalize R[k]=y at *
   have hd:decide (k<R.length)=true:=decide_eq_true hlt
   simp[hd,hx1,w3,w4]
   refine call_step (inr_con _ _ _) ?_
   simp
   rcases Bool.eq_false_or_eq_true (rng y 0 (2*nodesG x - 1)) with h1|h1
   case inr=>simp[h1,netOkB,belowB,hR,all_not' (p:=fun y=>rng y 0 (2*nodesG x - 1)) hx1 h1]
   simp[h1,w2]
   exact round_of hI hS hμ (k+1) ⟨by omega,by rw[all_snoc' hx1,hb,h1];rfl⟩ (by omega) ⟨[0,1],by simp⟩
 have hk':k=R.length:=by omega
 rw[hk',List.take_length] at hb
 have hbB:belowB R (2*nodesG x)=true:=hb
 simp[hlt]
 refine aw_loopU [false,true,false,false,false,false,false,false,false,false,false,false,false,false,false,false,false,false,false,false,false,false,false,false,false,false,false,false,false,false,false,false,false,false,false,false,false,false,false,false,false,true,true,true,false,false,false,false,false,false,false,false,false,false,false,false,false,false,false,false,false,false,false,false,false,false,false] (fun k:Nat=>k≤x.2.2.1.length∧andsFit (1+x.1+x.2.1.length) 0 (x.2.2.1.take k)=true) (fun k:Nat=>[(43,.d (.int .i64 k))]) (fun k:Nat=>[]) (fun k:Nat=>x.2.2.1.length - k) 0 ?_ ?_ ?_
 · exact⟨by simp,rfl⟩
 · exact⟨[0,1],by simp⟩
 clear hI hS hμ
 rintro I S μ hI hS hμ k ⟨hk,hc⟩
 by_cases hlt:k<x.2.2.1.length
 · have hx1:x.2.2.1[k]? = some x.2.2.1[k]:=List.getElem?_eq_getElem hlt
   have hL:(enAnd x.2.2.1[k]).length=2:=rfl
   have w2:IntKind.i64.wrap ((k:Int)+1)=(k:Int)+1:=wrap_id (by omega) (by omega)
   have w3:IntKind.i64.wrap (1+x.1+x.2.1.length+k)=1+x.1+x.2.1.length+k:=wrap_id (by omega) (by omega)
   have w4:IntKind.i64.wrap (2*(1+x.1+x.2.1.length+k))=2*(1+x.1+x.2.1.length+k):=wrap_id (by omega) (by omega)
   have w5:IntKind.i64.wrap (2*(1+x.1+x.2.1.length+k) - 1)=2*(1+x.1+x.2.1.length+k) - 1:=wrap_id (by omega) (by omega)
   generalize x.2.2.1[k]=s at *
   have hz:andFits (1+x.1+x.2.1.length+k) s=false→andsFit (1+x.1+x.2.1.length) 0 x.2.2.1=false:=andsFit_not hx1
   have hd:decide (k<x.2.2.1.length)=true:=decide_eq_true hlt
   simp[hd,hx1,hL,enAnd]
   refine call_step (firstAnd_con x ⟨n1,n2⟩ n3) ?_
   simp[w3,w4,w5]
   refine call_step (inr_con _ _ _) ?_
   simp
   rcases Bool.eq_false_or_eq_true (rng s.1 0 (2*(1+x.1+x.2.1.length+k) - 1)) with h1|h1
   case inr=>simp[h1,netOkB,hz (by simp[andFits,h1])]
   simp[h1]
   refine call_step (inr_con _ _ _) ?_
   simp
   rcases Bool.eq_false_or_eq_true (rng s.2 0 (2*(1+x.1+x.2.1.length+k) - 1)) with h2|h2
   case inr=>simp[h2,netOkB,hz (by simp[andFits,h2])]
   simp[h2,w2]
   exact round_of hI hS hμ (k+1) ⟨by omega,by rw[andsFit_snoc hx1,hc];simp[andFits,h1,h2]⟩ (by omega) ⟨[0,1],by simp⟩
 · have hk':k=x.2.2.1.length:=by omega
   rw[hk',List.take_length] at hc
   simp[hlt,netOkB,ha,hR,hbB,hc,hn]
end Go.Proofs.Ytnjedabjbeipeaa
