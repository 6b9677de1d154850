/-
  Marks over networks, by abstract walks.
  Conditions: those typed in each theorem.
-/
import Derived.Test.YtklhofpjjbfckaaMm
namespace Go.Proofs.Ytklhofpjjbfckaa
open Go.RowKit Go.ChangeShapes Go.WideShapes
set_option linter.unusedVariables false
set_option linter.unusedSimpArgs false
attribute [local simp ↓] condG_true condG_false condB_true condB_false
attribute [local simp] AWp_skip AWp_region_t AWp_region_d AWp_region_f still_mk AWp_seq AWp_cond condV_bool condB AWp_block AWp_exit AWp_ret
attribute [local simp] AOps_nil AOp_move AOp_assign AOp_pick AOp_binOp AOp_unOp AOp_convert AOp_len AOp_max AOp_min AOp_indexAddr AOp_load
attribute [local simp] AOp_fieldAddr AOp_field AOp_extract AOp_nilCheck AOp_build AOp_alloc AOp_box AOp_call AOp_store AOp_append AOp_buildSlice nextB_some
attribute [local simp] nextB_none adoptO adoptC AOp_makeSlice AOp_slice AOp_makeFunc AOp_guard guardD_some guardG_bool guardG_undef nextO_some nextS_some
attribute [local simp] nextZ_some nextL_some nextM_some nextT_some sliceO sliceL sliceT partO partV boundV funcO pickO
attribute [local simp] convO lenO maxO minO idxO extO nilO buildO litO litC makeO chunks
attribute [local simp] fillV placeOf thenA inBlockA St.get St.put St.eval ofCell evalT abin_add abin_sub abin_mul
attribute [local simp] abin_quo abin_rem abin_and abin_or abin_xor abin_andNot abin_shl abin_shr abin_shlu abin_eql abin_eqp abin_neq
attribute [local simp] abin_lss abin_leq abin_gtr abin_geq abin_eqlb abin_neqb aun pickV lenV intOf? indexV takeD
attribute [local simp] takeV loadV fieldAddrV fieldV ofX presD presDs pres presAll cellsV V.cell storeV
attribute [local simp] freezeC putAt kill takeC plains plainV scalarV nat_neg keepT sets eSl e1
attribute [local simp] e2 e3 e4 eInt eBool abinS_d abinS_agg abinS nilEq abin_eqb AOp_makeMap AOp_lookup
attribute [local simp] AOp_mapUpdate lookG_some updG_some mapV kyOf vlOf lookV vlV buildA afterCall inst inst1
attribute [local simp] inst1s instD instDs RetA resVs resV gives give1 give1s Le isPin leSlots
attribute [local simp] leS leTmps leV le0 le0s ren ren0 renS ren0s frame enterT afterT_some
attribute [local simp] afterC_some lives Slot.live arrsOk viewV view0 renT rens renSs setAll List.range'_succ RetT
attribute [local simp] RetW joinV leT AOpsE_nil AOpsE_cons AOpsT_nil AOpsT_cons isCallT isFnO callOf callVC_fn condC_true
attribute [local simp] condC_false beginT_mk thenT_mk pickE pickT isT loose namesOf namesV names1 names0 stableN
attribute [local simp] sameAt Op.operands Call.operands
attribute [local simp] mks_len markL_len
def mAnd (k:Int) (x:AndD):AndD:=(k,k+1)
theorem costs2 {α:Type}:∀ (xs:List α),costs (fun _=>2) xs=2*xs.length
 | []=>rfl
 | x::xs=>by simp[costs,costs2 xs];omega
theorem markAndS_conT (xs:List AndD) (k:Int) (h0:0≤k) (hk:k+costs (fun _=>2) xs≤1152921504606846976) :
 ConT Try.prog 102 [.ref 0,.d (.int .i64 k)] [.arr 61 true (xs.map enAnd)] (.d (.int .i64 (k+costs (fun _=>2) xs))) [.arr 61 true ((mks (fun _=>2) mAnd k xs).map enAnd)]:=by
 rw[costs2] at hk ⊢
 refine conT_of (by kernel_rfl) Try.func102 rfl rfl rfl (by simp[laters,Later]) (by simp[lives,Slot.live]) ?_
 simp
 refine aw_loopU [true,true,false,false,false,true,false,false,false,false,false,false,false,false,false,false,false,false,false,false,false,false,false,false,false,false,false] (fun j:Nat=>j≤xs.length) (fun j:Nat=>[(1,.d (.int .i64 (k+2*j))),(5,.d (.int .i64 j))]) (fun j:Nat=>[(0,.arr 61 true ((mkJ (fun _=>2) mAnd k xs j).map enAnd))]) (fun j:Nat=>xs.length - j) 0 ?_ ?_ ?_
 · simp
 · exact⟨[0],by simp[mkJ_0]⟩
 rintro I S μ hI hS hμ j hj
 have hl:=mkJ_len (f:=fun _=>2) (m:=mAnd) (k:=k) (xs:=xs) j hj
 by_cases hlt:j<xs.length
 · have w2:IntKind.i64.wrap ((j:Int)+1)=(j:Int)+1:=wrap_id (by omega) (by omega)
   have w3:IntKind.i64.wrap (k+2*(j:Int)+1)=k+2*(j:Int)+1:=wrap_id (by omega) (by omega)
   have w4:IntKind.i64.wrap (k+2*(j:Int)+1+1)=k+2*((j:Int)+1):=by rw[wrap_id (by omega) (by omega)];omega
   have hx:xs[j]? = some xs[j]:=List.getElem?_eq_getElem hlt
   have hr:=mkJ_at (f:=fun _=>2) (m:=mAnd) (k:=k) hx
   have hn:=mkJ_succ (f:=fun _=>2) (m:=mAnd) (k:=k) hx
   rw[costs2,List.length_take,Nat.min_eq_left hj] at hn
   have e2:((2*j:Nat):Int)=2*(j:Int):=by omega
   rw[e2] at hn
   generalize mkJ (fun _=>2) mAnd k xs j=lv at *
   generalize xs[j]=s at *
   have hd:decide (j<xs.length)=true:=decide_eq_true hlt
   have hL:(enAnd s).length=2:=rfl
   have hset:∀ y:List D,((lv.map enAnd).set j y)[j]? = some y:=fun y=>List.getElem?_set_self (by simp;omega)
   simp[hl,hd,hr,w2,w3,w4,hL,enAnd,hset]
   exact round_of hI hS hμ (j+1) (by omega) (by omega) ⟨[0],by simp[hn,List.map_set,enAnd,mAnd]⟩
 · have hj':j=xs.length:=by omega
   subst hj'
   rw[mkJ_all]
   simp[hlt]
   exact⟨[0],by simp⟩
theorem markAndS_conM (xs:List AndD) (k:Int) (h0:0≤k) (hk:k+costs (fun _=>2) xs≤1152921504606846976) :
 ConM Try.prog 102 61 (xs.map enAnd) k (k+costs (fun _=>2) xs) ((mks (fun _=>2) mAnd k xs).map enAnd) :=
 conM_flat (by simp) (fun w e he cs f h=>by obtain⟨x,_,rfl⟩:=List.mem_map.1 he;exact flat_owns (by simp[flatD,enAnd]) h) (fun w e he cs f h=>by obtain⟨x,_,rfl⟩:=List.mem_map.1 he;exact flat_owns (by simp[flatD,enAnd]) h) (markAndS_conT xs k h0 hk)
def cGr (x:GrD):Nat:=costs cSeq x.2.1+costs (fun _=>2) x.2.2.1+x.2.2.2.length
def mGr (k:Int) (x:GrD):GrD:=(x.1,mks cSeq mSeq k x.2.1,mks (fun _=>2) mAnd (k+costs cSeq x.2.1) x.2.2.1,markL x.2.2.2 (k+costs cSeq x.2.1+costs (fun _=>2) x.2.2.1))
theorem markNet_conW (x:GrD) (k:Int) (h0:0≤k) (hk:k+cGr x≤1152921504606846976) :
 ConW Try.prog 28 [.agg [.d (.int .i64 x.1),.ref 0,.ref 1,.ref 2],.d (.int .i64 k)] [.arr 31 true (x.2.1.map enSeq),.arr 61 true (x.2.2.1.map enAnd),.arr 3 true (x.2.2.2.map (e1 eInt))]
  (k+cGr x) [.arr 31 true ((mGr k x).2.1.map enSeq),.arr 61 true ((mGr k x).2.2.1.map enAnd),.arr 3 true ((mGr k x).2.2.2.map (e1 eInt))]:=by
 have hc:cGr x=costs cSeq x.2.1+costs (fun _=>2) x.2.2.1+x.2.2.2.length:=rfl
 have he:k+(cGr x:Int)=k+costs cSeq x.2.1+costs (fun _=>2) x.2.2.1+x.2.2.2.length:=by omega
 rw[he]
 refine conW_of (by kernel_rfl) Try.func28 rfl rfl rfl (by simp[allLike,arrLike,mGr]) ?_
 simp
 refine callM_step (markSeqS_conM x.2.1 k h0 (by omega)) (by rfl) ?_
 simp
 refine callM_step (markAndS_conM x.2.2.1 (k+costs cSeq x.2.1) (by omega) (by omega)) (by rfl) ?_
 simp
 refine callM_step (markIntS_conM x.2.2.2 (k+costs cSeq x.2.1+costs (fun _=>2) x.2.2.1) (by omega) (by omega)) (by rfl) ?_
 simp
 exact⟨[0,1,2],by simp[mGr]⟩
end Go.Proofs.Ytklhofpjjbfckaa
