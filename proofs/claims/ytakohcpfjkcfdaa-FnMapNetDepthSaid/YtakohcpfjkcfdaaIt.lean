/-
  The lists of cuts of all nodes, by the program. Abstract walks.
  Conditions: those typed in each theorem.
-/
import Derived.Test.YtakohcpfjkcfdaaIr
namespace Go.Proofs.Ytakohcpfjkcfdaa
open Go.RowKit Go.ChangeShapes Go.WideShapes
set_option linter.unusedVariables false
set_option linter.unusedSimpArgs false
attribute [local simp ↓] condG_true condG_false condB_true condB_false
attribute [local simp] AWp_skip AWp_region_t AWp_region_d AWp_region_f still_mk AWp_seq AWp_cond condV_bool condB AWp_block AWp_exit AWp_ret
attribute [local simp] AOps_nil AOp_move AOp_assign AOp_pick AOp_binOp AOp_unOp AOp_convert AOp_len AOp_max AOp_min AOp_indexAddr AOp_load
attribute [local simp] AOp_fieldAddr AOp_field AOp_extract AOp_nilCheck AOp_build AOp_alloc AOp_box AOp_call AOp_store AOp_append AOp_buildSlice nextB_some
attribute [local simp] nextB_none adoptO adoptC AOp_makeSlice AOp_slice AOp_makeFunc AOp_guard guardD_some guardG_bool guardG_undef nextO_some nextS_some
attribute [local simp] nextZ_some nextL_some nextM_some nextT_some sliceO sliceL sliceT partO partV boundV funcO pickO
attribute [local simp] convO lenO maxO minO idxO extO nilO buildO litO litC makeO chunks
attribute [local simp] fillV placeOf thenA inBlockA St.get St.put St.eval ofCell evalT abin_add abin_sub abin_mul
attribute [local simp] abin_quo abin_rem abin_and abin_or abin_xor abin_andNot abin_shl abin_shr abin_shlu abin_eql abin_eqp abin_neq
attribute [local simp] abin_lss abin_leq abin_gtr abin_geq abin_eqlb abin_neqb aun pickV lenV intOf? indexV takeD
attribute [local simp] takeV loadV fieldAddrV fieldV ofX presD presDs pres presAll cellsV V.cell storeV
attribute [local simp] freezeC putAt kill takeC plains plainV scalarV nat_neg keepT sets eSl e1
attribute [local simp] e2 e3 e4 eInt eBool abinS_d abinS_agg abinS nilEq abin_eqb AOp_makeMap AOp_lookup
attribute [local simp] AOp_mapUpdate lookG_some updG_some mapV kyOf vlOf lookV vlV buildA afterCall inst inst1
attribute [local simp] inst1s instD instDs RetA resVs resV gives give1 give1s Le isPin leSlots
attribute [local simp] leS leTmps leV le0 le0s ren ren0 renS ren0s frame enterT afterT_some
attribute [local simp] afterC_some lives Slot.live arrsOk viewV view0 renT rens renSs setAll List.range'_succ RetT
attribute [local simp] RetW joinV leT AOpsE_nil AOpsE_cons AOpsT_nil AOpsT_cons isCallT isFnO callOf callVC_fn condC_true
attribute [local simp] condC_false beginT_mk thenT_mk pickE pickT isT loose namesOf namesV names1 names0 stableN
attribute [local simp] sameAt Op.operands Call.operands
def mixG (x:GrD) (v k:Nat):List (List D):=((allG x v).take k).map en3++List.replicate (v+1 - k) [.sl 26 []]
theorem mixG_len {x:GrD} {v k:Nat} (hk:k≤v+1):(mixG x v k).length=v+1:=by
 unfold mixG
 have:(allG x v).length=v+1:=allC_len v
 simp
 omega
theorem mixG_at {x:GrD} {v k i:Nat} {l:Rws} (hk:k≤v+1) (hi:i<k) (h:(allG x v)[i]? = some l):(mixG x v k)[i]? = some (en3 l):=by
 unfold mixG
 have h1:(allG x v).length=v+1:=allC_len v
 rw[List.getElem?_append_left (by simp;omega),List.getElem?_map,List.getElem?_take,if_pos hi,h]
 rfl
theorem mixG_now {x:GrD} {v k:Nat} (hk:k<v+1):(mixG x v k)[k]? = some [.sl 26 []]:=by
 unfold mixG
 have h1:(allG x v).length=v+1:=allC_len v
 have h2:(((allG x v).take k).map en3).length=k:=by simp;omega
 rw[List.getElem?_append_right (by omega),h2,Nat.sub_self,List.getElem?_replicate,if_pos (by omega)]
theorem mixG_set {x:GrD} {v k:Nat} {l:Rws} (hk:k<v+1) (h:(allG x v)[k]? = some l):(mixG x v k).set k (en3 l)=mixG x v (k+1):=by
 unfold mixG
 have h1:(allG x v).length=v+1:=allC_len v
 have h2:(((allG x v).take k).map en3).length=k:=by simp;omega
 rw[List.set_append_right _ _ (by omega),h2,Nat.sub_self,take_snoc' h,List.map_append,show v+1 - k=(v+1 - (k+1))+1 by omega,List.replicate_succ]
 simp
theorem mixG_all {x:GrD} {v:Nat}:mixG x v (v+1)=(allG x v).map en3:=by
 unfold mixG
 have h1:(allG x v).length=v+1:=allC_len v
 rw[List.take_of_length_le (by omega),Nat.sub_self]
 simp
theorem mixG_zero {x:GrD} {v:Nat}:mixG x v 0=List.replicate (v+1) [.sl 26 []]:=by simp[mixG]
theorem allG_ent {x:GrD} {v j:Nat} (h:j+1≤v):(allG x v)[j+1]? = some (entC (firstG x) (kidA x) (kidB x) (allG x j) (j+1)):=by
 have h1:(allG x j).length=j+1:=allC_len j
 rw[show allG x v=allC (firstG x) (kidA x) (kidB x) v from rfl,allC_stay h]
 show (allG x j++[_])[j+1]? = _
 rw[List.getElem?_append_right (by omega),h1]
 simp
set_option maxRecDepth 100000 in
set_option maxHeartbeats 8000000 in
theorem allCuts_conT (x:GrD) (v:Nat) (hx:fitGr 1048576 x) (hok:netOkB x=true) (hv:v<grN x):ConT Try.prog 62 [vgr x,.d (.int .i64 v)] [] (.d (.sl 29 ((allG x v).map en3))) []:=by
 obtain⟨⟨n1,n2,n3,n4,n5,n6⟩,-,-,-⟩:=netOk_of hok
 obtain⟨hF,hgl,hNi,hno⟩:=ok_sizes hok
 have hN:=grN_eq x
 have hfp:0<firstG x:=by unfold firstG;omega
 have wv:IntKind.i64.wrap ((v:Int)+1)=((v+1:Nat):Int):=by rw[wrap_id (by omega) (by omega)];omega
 refine conT_ofD (by kernel_rfl) Try.func62 rfl rfl rfl (by simp[laters,Later]) (by simp[lives,Slot.live]) ?_
 simp[enGr,wv]
 refine⟨by omega,?_⟩
 refine aw_loopN [false,true,true,false,false,true,true,false,false,false,false,false,false,false,false,false,false,false,false,false,false,false,false,false,false,false,false,false,false,false,false,false,false,false,false,false,false,false,false,false,false,false,false,false,false,false,false,false,false,false,false,false,false,false,false,false,false,false,false,false,false,false,false,false,false,false,false,false,false,false,false,false,false] (fun k:Nat=>k≤v+1) (fun k:Nat=>[(5,.ref 1),(6,.d (.int .i64 k))]) (fun k:Nat=>fun _=>[Slot.var 28 [.d (.int .i64 x.1),.d (eSl 68 enSeq x.2.1),.d (eSl 56 enAnd x.2.2.1),.d (eSl 3 (e1 eInt) x.2.2.2)],.arr 29 false (mixG x v k)]) (fun k:Nat=>v+1 - k) 0 ?_ ?_ ?_
 · exact Nat.zero_le _
 · exact⟨[0,1],by simp[mixG_zero]⟩
 rintro I S μ hI hS hμ k hk
 by_cases hlt:k≤v
 case neg =>
  obtain rfl:k=v+1:=by omega
  rw[mixG_all]
  simp[show ¬ (v:Int)+1≤(v:Int) by omega]
  exact⟨[],by simp⟩
 have hkv:(k:Int)≤(v:Int):=by omega
 have wk:IntKind.i64.wrap ((k:Int)+1)=((k+1:Nat):Int):=by rw[wrap_id (by omega) (by omega)];omega
 have hkN:k<grN x:=by omega
 have kA:=isAnd_con x k ⟨n1,n2⟩ n3 n4
 have hml:=mixG_len (x:=x) (v:=v) (k:=k) hk
 have hnow:=mixG_now (x:=x) (v:=v) (k:=k) (by omega)
 have hset:∀ l,(allG x v)[k]? = some l→(mixG x v k).set k (en3 l)=mixG x v (k+1):=fun l h=>mixG_set (by omega) h
 obtain⟨c0,hnow2,hnl,hnt⟩:∃ c0,(mixG x v k)[k]? = some c0∧c0.length=1∧c0.tail=[]:=⟨_,hnow,rfl,rfl⟩
 have hnow3:∀ h:k<(mixG x v k).length,(mixG x v k)[k]'h=c0:=fun h=>Option.some.inj ((List.getElem?_eq_getElem h).symm.trans hnow2)
 have hml2:k<(mixG x v k).length:=by omega
 have hnow4:=hnow3 hml2
 obtain⟨d0,rfl⟩:=List.length_eq_one_iff.1 hnl
 by_cases hk0:k=0
 · subst hk0
   have h0:(allG x v)[0]? = some [[]]:=by rw[show allG x v=allC (firstG x) (kidA x) (kidB x) v from rfl,allC_stay (Nat.zero_le v)];rfl
   have hs0:=hset _ h0
   have hs0':(mixG x v 0).set 0 [.sl 26 [[.sl 3 []]]]=mixG x v 1:=hs0
   have h00:¬ v+1=0:=by omega
   generalize mixG x v 0=M at *
   simp[hkv,hnow2,hnow4,hs0',wk,show IntKind.i64.wrap 1=1 from rfl]
   exact round_of hI hS hμ 1 (by omega) (by omega) ⟨[0,1],by simp⟩
 obtain⟨j,hj⟩:∃ j,k=j+1:=⟨k - 1,by omega⟩
 have hent:(allG x v)[k]? = some (entC (firstG x) (kidA x) (kidB x) (allG x j) k):=by rw[hj];exact allG_ent (by omega)
 have hs1:=hset _ hent
 have hkb:((k:Int)==0)=false:=by simp;omega
 by_cases hkF:k<firstG x
 · have he:entC (firstG x) (kidA x) (kidB x) (allG x j) k=[[(k:Int)]]:=by unfold entC;rw[if_neg (by omega)];rfl
   rw[he] at hs1
   have hs1':(mixG x v k).set k [.sl 26 [[.sl 3 [[.int .i64 (k:Int)]]]]]=mixG x v (k+1):=hs1
   rw[decide_eq_false (show ¬ firstG x≤k by omega),Bool.false_and] at kA
   obtain⟨M2,hM2⟩:∃ M2,mixG x v (k+1)=M2:=⟨_,rfl⟩
   rw[hM2] at hs1'
   generalize mixG x v k=M at *
   simp[hkv,hkb,hk0]
   refine call_step (kA) ?_
   simp[hnow2,hnow4,hs1',wk]
   exact round_of hI hS hμ (k+1) (by omega) (by omega) ⟨[0,1],by simp[hM2]⟩
 · obtain⟨ha,a1,a2,a3,a4,a5,a6⟩:=and_at hok (v:=k) (by omega) hkN
   rw[decide_eq_true (show firstG x≤k by omega),decide_eq_true hkN,Bool.true_and] at kA
   obtain⟨ii,hii⟩:∃ i,k - firstG x=i:=⟨_,rfl⟩
   rw[hii] at ha
   have hdi:decide (ii<x.2.2.1.length)=true:=decide_eq_true (by omega)
   have hL2:(enAnd (andAt x k)).length=2:=rfl
   have wf:IntKind.i64.wrap ((k:Int) - (1+x.1+(x.2.1.length:Int)))=(ii:Int):=by rw[wrap_id (by omega) (by omega)];omega
   have q1:IntKind.i64.wrap ((andAt x k).1.tdiv 2)=(kidA x k:Int):=by rw[Int.tdiv_eq_ediv_of_nonneg a1,a3];exact wrap_id (by omega) (by omega)
   have q2:IntKind.i64.wrap ((andAt x k).2.tdiv 2)=(kidB x k:Int):=by rw[Int.tdiv_eq_ediv_of_nonneg a2,a4];exact wrap_id (by omega) (by omega)
   obtain⟨lA,hlA⟩:=allG_at (x:=x) (k:=j) (i:=kidA x k) (by omega)
   obtain⟨lB,hlB⟩:=allG_at (x:=x) (k:=j) (i:=kidB x k) (by omega)
   have rA:=allC_row (kids_lt hok) j (by omega) _ _ hlA
   have rB:=allC_row (kids_lt hok) j (by omega) _ _ hlB
   have he:entC (firstG x) (kidA x) (kidB x) (allG x j) k=joinC lA lB++[[(k:Int)]]:=by
    unfold entC;rw[if_pos (by omega),hlA,hlB];rfl
   have hvA:(allG x v)[kidA x k]? = some lA:=(allC_stay (show kidA x k≤v by omega)).trans ((allC_stay (show kidA x k≤j by omega)).symm.trans hlA)
   have hvB:(allG x v)[kidB x k]? = some lB:=(allC_stay (show kidB x k≤v by omega)).trans ((allC_stay (show kidB x k≤j by omega)).symm.trans hlB)
   have mA:=mixG_at (k:=k) (by omega) (show kidA x k<k by omega) hvA
   have mB:=mixG_at (k:=k) (by omega) (show kidB x k<k by omega) hvB
   have dA:decide (kidA x k<(mixG x v k).length)=true:=decide_eq_true (by omega)
   have dB:decide (kidB x k<(mixG x v k).length)=true:=decide_eq_true (by omega)
   rw[he] at hs1
   have kj:=candidates_conT lA lB j rA.1 rB.1 (fun c hc=>(rA.2 c hc).mono (by omega)) (fun c hc=>(rB.2 c hc).mono (by omega))
   have hJ:joinC lA lB=((candC lA lB).filter (keepB (candC lA lB))).take 7:=rfl
   rw[hJ] at hs1
   have hLA:(en3 lA).length=1:=rfl
   have hLB:(en3 lB).length=1:=rfl
   generalize (candC lA lB).filter (keepB (candC lA lB))=C at *
   have hs1':(mixG x v k).set k [.sl 26 ((C.take 7).map enRow++[[.sl 3 [[.int .i64 (k:Int)]]]])]=mixG x v (k+1):=by
    rw[←hs1];simp[en3,enRow,e1,eSl,eInt]
   obtain⟨M2,hM2⟩:∃ M2,mixG x v (k+1)=M2:=⟨_,rfl⟩
   rw[hM2] at hs1'
   clear hs1 hset
   generalize mixG x v k=M at *
   generalize kidA x k=ka at *
   generalize kidB x k=kb at *
   generalize andAt x k=an at *
   simp[hkv,hkb,hk0]
   refine call_step (kA) ?_
   simp
   refine drawD_of 9 (by kernel_rfl) ?_
   simp[enGr]
   refine call_step (firstAnd_con x ⟨n1,n2⟩ n3) ?_
   simp[wf,ha,hdi,hL2,enAnd,enGr]
   refine drawD_of 12 (by kernel_rfl) ?_
   simp[q1,q2,mA,mB,hLA,hLB,en3,e1,eSl]
   by_cases h7:7<C.length
   · have h7':(7:Int)<(C.length:Int):=by omega
     have h7c:((7:Int)).toNat≤C.length:=by omega
     have hCt:(C.map enRow).take 7=(C.take 7).map enRow:=List.map_take.symm
     have hC7:(C.take 7).length=7:=by rw[List.length_take];omega
     have hrl:∀ r,r∈C→(enRow r).length=1:=fun _ _=>rfl
     have h7l:7≤C.length:=by omega
     refine callT_step (kj) [] [] (by simp) ?_
     simp[h7,decide_eq_true h7']
     rw[if_pos ⟨h7l,hrl⟩,hCt]
     generalize C.take 7=C7 at *
     simp
     refine app_frozen (by exact rfl) vt_el_29 (by exact rfl) (by simp) (by simp[enRow,e1]) (by first | (simp;done)|(simp;omega)) ?_
     simp[enRow,e1,eSl]
     refine app_frozen (by exact rfl) vt_el_29 (by exact rfl) (by simp) (by simp[enRow,e1]) (by first | (simp;done)|(simp;omega)) ?_
     simp[enRow,e1,eSl,hnow2,hnow4,hs1',wk]
     exact round_of hI hS hμ (k+1) (by omega) (by omega) ⟨[0,1],by simp[hM2]⟩
   · have h7':¬ (7:Int)<(C.length:Int):=by omega
     have hCt:C.take 7=C:=List.take_of_length_le (by omega)
     rw[hCt] at hs1'
     have hC7:C.length≤7:=by omega
     refine callT_step (kj) [] [] (by simp) ?_
     simp[h7',decide_eq_false h7']
     refine app_frozen (by exact rfl) vt_el_29 (by exact rfl) (by simp) (by simp[enRow,e1]) (by first | (simp;done)|(simp;omega)) ?_
     simp[enRow,e1,eSl]
     refine app_frozen (by exact rfl) vt_el_29 (by exact rfl) (by simp) (by simp[enRow,e1]) (by first | (simp;done)|(simp;omega)) ?_
     simp[enRow,e1,eSl,hnow2,hnow4,hs1',wk]
     exact round_of hI hS hμ (k+1) (by omega) (by omega) ⟨[0,1],by simp[hM2]⟩
end Go.Proofs.Ytakohcpfjkcfdaa
