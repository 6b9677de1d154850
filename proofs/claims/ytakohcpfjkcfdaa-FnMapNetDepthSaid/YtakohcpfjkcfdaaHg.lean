/-
  The labels of all nodes and the mapping of least depth, by the program. By abstract walks.
  Conditions: those typed in each theorem.
-/
import Derived.Test.YtakohcpfjkcfdaaHf
import Derived.Test.YtakohcpfjkcfdaaFi
namespace Go.Proofs.Ytakohcpfjkcfdaa
open Go.RowKit Go.ChangeShapes Go.WideShapes
set_option linter.unusedVariables false
set_option linter.unusedSimpArgs false
attribute [local simp ↓] condG_true condG_false condB_true condB_false
attribute [local simp] AWp_skip AWp_region_t AWp_region_d AWp_region_f still_mk AWp_seq AWp_cond condV_bool condB AWp_block AWp_exit AWp_ret
attribute [local simp] AOps_nil AOp_move AOp_assign AOp_pick AOp_binOp AOp_unOp AOp_convert AOp_len AOp_max AOp_min AOp_indexAddr AOp_load
attribute [local simp] AOp_fieldAddr AOp_field AOp_extract AOp_nilCheck AOp_build AOp_alloc AOp_box AOp_call AOp_store AOp_append AOp_buildSlice nextB_some
attribute [local simp] nextB_none adoptO adoptC AOp_makeSlice AOp_slice AOp_makeFunc AOp_guard guardD_some guardG_bool guardG_undef nextO_some nextS_some
attribute [local simp] nextZ_some nextL_some nextM_some nextT_some sliceO sliceL sliceT partO partV boundV funcO pickO
attribute [local simp] convO lenO maxO minO idxO extO nilO buildO litO litC makeO chunks
attribute [local simp] fillV placeOf thenA inBlockA St.get St.put St.eval ofCell evalT abin_add abin_sub abin_mul
attribute [local simp] abin_quo abin_rem abin_and abin_or abin_xor abin_andNot abin_shl abin_shr abin_shlu abin_eql abin_eqp abin_neq
attribute [local simp] abin_lss abin_leq abin_gtr abin_geq abin_eqlb abin_neqb aun pickV lenV intOf? indexV takeD
attribute [local simp] takeV loadV fieldAddrV fieldV ofX presD presDs pres presAll cellsV V.cell storeV
attribute [local simp] freezeC putAt kill takeC plains plainV scalarV nat_neg keepT sets eSl e1
attribute [local simp] e2 e3 e4 eInt eBool abinS_d abinS_agg abinS nilEq abin_eqb AOp_makeMap AOp_lookup
attribute [local simp] AOp_mapUpdate lookG_some updG_some mapV kyOf vlOf lookV vlV buildA afterCall inst inst1
attribute [local simp] inst1s instD instDs RetA resVs resV gives give1 give1s Le isPin leSlots
attribute [local simp] leS leTmps leV le0 le0s ren ren0 renS ren0s frame enterT afterT_some
attribute [local simp] afterC_some lives Slot.live arrsOk viewV view0 renT rens renSs setAll List.range'_succ RetT
attribute [local simp] RetW joinV leT AOpsE_nil AOpsE_cons AOpsT_nil AOpsT_cons isCallT isFnO callOf callVC_fn condC_true
attribute [local simp] condC_false beginT_mk thenT_mk pickE pickT isT loose namesOf namesV names1 names0 stableN
attribute [local simp] sameAt Op.operands Call.operands
def hK (lab:List Int) (L:List Int):Nat→Int
 | 0=>1
 | q+1=>max (hK lab L q) (getZ lab ((L[q]?).getD 0).toNat)
theorem hK_all {lab:List Int} {F k:Nat} {ka kb:Nat→Nat} (hk:F≤k):hK lab ((kidsL F ka kb k).map fun c:Nat=>(c:Int)) ((kidsL F ka kb k).map fun c:Nat=>(c:Int)).length=max 1 (kidM ka kb lab k):=by
 unfold kidsL
 rw[if_neg (by omega)]
 unfold kidM
 split
 · rename_i e
   simp[hK,e]
 · simp only[List.map_cons,List.map_nil,List.length_cons,List.length_nil,hK,List.getElem?_cons_zero,List.getElem?_cons_succ,Option.getD_some,Int.toNat_natCast]
   omega
theorem hK_bnd {lab L:List Int} {m:Int} (hm:0≤m) (h:∀ q,0≤getZ lab q∧getZ lab q≤m):∀ q,1≤hK lab L q∧hK lab L q≤m+1
 | 0=>by unfold hK;omega
 | q+1=>by
   have:=hK_bnd (L:=L) hm h q
   have:=h ((L[q]?).getD 0).toNat
   unfold hK
   omega
set_option maxRecDepth 100000 in
set_option maxHeartbeats 4000000 in
theorem allLabels_con (x:GrD) (hx:fitGr 1048576 x) (hok:netOkB x=true):ConC Try.prog 28 [igr x] (ints (labelsL x)):=by
 rw[labelsL_eq]
 obtain⟨⟨n1,n2,n3,n4,n5,n6⟩,-,-,-⟩:=netOk_of hok
 have hN:=grN_eq x
 have hNF:=netF_of hok
 have hFi:(firstG x:Int)=1+x.1+x.2.1.length:=by unfold firstG;omega
 have hgl:grN x≤400:=by unfold firstG at hN;omega
 have hNi:(1+x.1+(x.2.1.length:Int)+(x.2.2.1.length:Int)).toNat=grN x:=by omega
 have hNz:(1+x.1+(x.2.1.length:Int)+(x.2.2.1.length:Int))=(grN x:Int):=by omega
 have hrepI:List.replicate (grN x) [D.int .i64 0]=(List.replicate (grN x) (0:Int)).map (e1 eInt):=by simp[e1,eInt]
 refine con_of (by kernel_rfl) Try.func28 rfl rfl rfl ?_
 simp[enGr]
 refine call_step (iNodeCnt_con x ⟨n1,n2⟩ n3 n4) ?_
 simp[hNi]
 refine⟨by omega,?_⟩
 rw[hrepI]
 refine call_step (firstAnd_con x ⟨n1,n2⟩ n3) ?_
 simp
 refine aw_loopN [false,true,false,true,true,false,false,false,false,false,false,false,false,false,false,false,false,false,false,false,false,false,false,false,false,false,false,false,false,false,false,false,false,false,false,false,false,false,false,false,false,false,false,false,false,false,false,false,false,false,false,false,false] (fun i:Nat=>i≤x.2.2.1.length) (fun i:Nat=>[(3,.ref 1),(4,.d (.int .i64 ((firstG x+i:Nat):Int)))]) (fun i:Nat=>fun sl=>[.var 28 (flowV x 0 |>.take 4),.arr 3 true ((labG x i).map (e1 eInt))]) (fun i:Nat=>x.2.2.1.length - i) 0 ?_ ?_ ?_
 · exact Nat.zero_le _
 · exact⟨[0,1],by simp[labK,hFi]⟩
 rintro I S μ hI hS hμ i hi
 obtain⟨k,hk⟩:∃ k,k=firstG x+i:=⟨_,rfl⟩
 rw[←hk]
 by_cases hlt:i<x.2.2.1.length
 case neg =>
  obtain rfl:i=x.2.2.1.length:=by omega
  simp[enGr]
  refine call_step (iNodeCnt_con x ⟨n1,n2⟩ n3 n4) ?_
  simp[hNz,show ¬ (k:Int)<(grN x:Int) by omega]
 have hkN:k<grN x:=by omega
 have hLi:=labK_ok hNF i (by omega)
 rw[←hk] at hLi
 have hbnd:∀ q,getZ (labG x i) q≤i:=fun q=>lab_bnd hNF i q (by omega)
 have hpos:∀ q,0≤getZ (labG x i) q:=hLi.pos
 have hll:(labG x i).length=grN x:=hLi.len
 have hst:labG x (i+1)=(labG x i).set k (labOf (grN x) (firstG x) (kidA x) (kidB x) (coneL x) (labG x i) k):=by rw[hk];rfl
 have kk:=kidsOf_con x k hx hok hkN
 have hlE:(if (hcJ x k (max 1 (kidM (kidA x) (kidB x) (labG x i) k)) (labG x i)).isSome=true then max 1 (kidM (kidA x) (kidB x) (labG x i) k) else max 1 (kidM (kidA x) (kidB x) (labG x i) k)+1)=labOf (grN x) (firstG x) (kidA x) (kidB x) (coneL x) (labG x i) k:=labI_eq hNF hLi (by omega) hkN (Nat.le_refl _)
 have hall:=hK_all (lab:=labG x i) (F:=firstG x) (k:=k) (ka:=kidA x) (kb:=kidB x) (by omega)
 have hLm:∀ z∈((kidsL (firstG x) (kidA x) (kidB x) k).map fun c:Nat=>(c:Int)),0≤z∧z<grN x:=fun z hz=>by
  obtain⟨c,hc,rfl⟩:=List.mem_map.1 hz
  have:=(kidsL_mem.1 hc).2
  have h2:=hNF.kids k (by omega) hkN
  rcases this with rfl|rfl<;>omega
 have hLl:((kidsL (firstG x) (kidA x) (kidB x) k).map fun c:Nat=>(c:Int)).length≤2:=by rw[List.length_map];exact kidsL_len
 have wk:IntKind.i64.wrap ((k:Int)+1)=((firstG x+(i+1):Nat):Int):=by rw[wrap_id (by omega) (by omega)];omega
 have hcut:=heightCut_con x (labG x i) k (max 1 (kidM (kidA x) (kidB x) (labG x i) k)) hx hok (by omega) hkN hll
 rw[←hlE] at hst
 generalize hcJ x k (max 1 (kidM (kidA x) (kidB x) (labG x i) k)) (labG x i)=cq at *
 have hkb:=fun q=>hK_bnd (lab:=labG x i) (L:=(kidsL (firstG x) (kidA x) (kidB x) k).map fun c:Nat=>(c:Int)) (m:=i) (by omega) (fun q=>⟨hpos q,hbnd q⟩) q
 generalize ((kidsL (firstG x) (kidA x) (kidB x) k).map fun c:Nat=>(c:Int))=L at *
 have hatK:(labG x i)[k]? = some (getZ (labG x i) k):=by unfold getZ;rw[List.getElem?_eq_getElem (by omega)];rfl
 obtain⟨l2,hl2⟩:∃ l2,labG x (i+1)=l2:=⟨_,rfl⟩
 rw[hl2] at hst
 generalize hl0:labG x i=l0 at *
 simp[enGr]
 refine call_step (iNodeCnt_con x ⟨n1,n2⟩ n3 n4) ?_
 simp[hNz,show (k:Int)<(grN x:Int) by omega]
 refine call_step (kk) ?_
 simp[enGr]
 refine aw_loopN [false,true,false,true,true,true,false,false,false,false,false,false,false,false,false,false,false,false,false,false,false,false,false,true,true,true,false,false,false,false,false,false,false,false,false,false,false,false,false,false,false,false,false,false,false,false,false,false,false,false,false,false,false] (fun q:Nat=>q≤L.length) (fun q:Nat=>[(3,.ref 1),(4,.d (.int .i64 k)),(23,.ref 2),(24,.d (.int .i64 (L.length:Int))),(5,.d (.int .i64 (hK l0 L q))),(25,.d (.int .i64 q))]) (fun q:Nat=>fun sl=>[.var 28 (flowV x 0 |>.take 4),.arr 3 true (l0.map (e1 eInt)),.arr 3 true (L.map (e1 eInt))]) (fun q:Nat=>L.length - q) 0 ?_ ?_ ?_
 · exact Nat.zero_le _
 · exact⟨[0,1,2],by simp[hK]⟩
 rintro I2 S2 μ2 hI2 hS2 hμ2 q hq
 by_cases hq1:q<L.length
 · have hLq:L[q]? = some L[q]:=List.getElem?_eq_getElem hq1
   have hz:=hLm _ (List.getElem_mem hq1)
   have w2:IntKind.i64.wrap ((q:Int)+1)=(q:Int)+1:=wrap_id (by omega) (by omega)
   have hnx:hK l0 L (q+1)=max (hK l0 L q) (getZ l0 (L[q]).toNat):=by rw[hK,hLq];rfl
   have hbq:=hkb q
   generalize L[q]=z at *
   obtain⟨c,rfl⟩:∃ c:Nat,z=c:=⟨z.toNat,by omega⟩
   rw[Int.toNat_natCast,←mx_max] at hnx
   have hat:l0[c]? = some (getZ l0 c):=by unfold getZ;rw[List.getElem?_eq_getElem (by omega)];rfl
   have hq2:=decide_eq_true hq1
   simp[enGr,hq2,hLq,hat,w2]
   exact round_of hI2 hS2 hμ2 (q+1) (by omega) (by omega) ⟨[0,1,2],by simp[hnx]⟩
 obtain rfl:q=L.length:=by omega
 have hm1:=hkb L.length
 rw[hall] at hm1
 generalize max 1 (kidM (kidA x) (kidB x) l0 k)=mh at *
 have w3:IntKind.i64.wrap (mh+1)=mh+1:=wrap_id (by omega) (by omega)
 have hset1:=setI (lv:=l0) (i:=k) (v:=mh)
 have hset2:=setI (lv:=l0) (i:=k) (v:=mh+1)
 cases cq with
 | none =>
   rw[if_neg (by simp)] at hst
   rw[←hst] at hset2
   simp[enGr,hall]
   refine call_step (hcut) ?_
   simp[enGr,hatK,w3,hset2,wk]
   exact round_of hI hS hμ (i+1) (by omega) (by omega) ⟨[0,1],by simp[hl2]⟩
 | some cs =>
   rw[if_pos (show (some cs).isSome=true from rfl)] at hst
   rw[←hst] at hset1
   simp[enGr,hall]
   refine call_step (hcut) ?_
   simp[enGr,hatK,w3,hset1,wk]
   exact round_of hI hS hμ (i+1) (by omega) (by omega) ⟨[0,1],by simp[hl2]⟩
def dmC (i:Nat):V:=if i=0 then .nil 26 else .ref 2
def dmS (i:Nat) (rs:List RowD):List Slot:=if i=0 then [] else [.arr 26 true (rs.map enRow)]
theorem dmC_row {i:Nat} (h:i≠0):dmC i=.ref 2:=if_neg h
theorem dmS_row {i:Nat} {rs:List RowD} (h:i≠0):dmS i rs=[.arr 26 true (rs.map enRow)]:=if_neg h
theorem dmC_nil:dmC 0=.nil 26:=rfl
theorem dmS_nil {rs:List RowD}:dmS 0 rs=[]:=rfl
set_option maxRecDepth 100000 in
set_option maxHeartbeats 4000000 in
theorem iDepth_con' (x:GrD) (hx:fitGr 1048576 x):ConC Try.prog 12 [igr x] (irows (depthMap x)):=by
 have kok:=iNetOk_con x hx
 have hB:depthMap x=if netOkB x=true then depK x x.2.2.1.length else []:=rfl
 cases hok:netOkB x with
 | false =>
   rw[if_neg (by simp[hok])] at hB
   rw[hok] at kok
   refine con_ofD (by kernel_rfl) Try.func12 rfl rfl rfl ?_
   simp[enGr]
   refine call_step (kok) ?_
   simp[enGr,hB]
 | true =>
 rw[if_pos hok] at hB
 rw[hB]
 have klab:=allLabels_con x hx hok
 obtain⟨⟨n1,n2,n3,n4,n5,n6⟩,-,-,-⟩:=netOk_of hok
 have hN:=grN_eq x
 have hFi:(firstG x:Int)=1+x.1+x.2.1.length:=by unfold firstG;omega
 have hgl:grN x≤400:=by unfold firstG at hN;omega
 have hLO:=labelsL_ok hok
 have hll:=hLO.len
 rw[hok] at kok
 refine con_ofD (by kernel_rfl) Try.func12 rfl rfl rfl ?_
 simp[enGr]
 refine call_step (kok) ?_
 simp[enGr]
 refine call_step (klab) ?_
 simp[enGr]
 refine aw_loopN [false,true,false,true,true,false,false,false,false,false,false,false,false,false,false,false,true,true,false,false,false,false,false,false,false,false,false,false,false,false,false,false,false,false,false,false,false,false,false,false,false] (fun i:Nat=>i≤x.2.2.1.length) (fun i:Nat=>[(4,dmC i),(17,.d (.int .i64 i))]) (fun i:Nat=>fun sl=>.var 28 (flowV x 0 |>.take 4)::.arr 3 true ((labelsL x).map (e1 eInt))::dmS i (depK x i)) (fun i:Nat=>x.2.2.1.length - i) 0 ?_ ?_ ?_
 · exact Nat.zero_le _
 · exact⟨[0,1],by simp[dmC,dmS]⟩
 rintro I S μ hI hS hμ i hi
 obtain⟨k,hk⟩:∃ k,k=firstG x+i:=⟨_,rfl⟩
 by_cases hlt:i<x.2.2.1.length
 · have hkN:k<grN x:=by omega
   have hlo:=(hLO.lo k (by omega) hkN).1
   have hcut:=heightCut_con x (labelsL x) k (getZ (labelsL x) k) hx hok (by omega) hkN hll
   have hsame:hcJ x k (getZ (labelsL x) k) (labelsL x)=hcG x k (getZ (labelsL x) k) (labelsL x):=hc_same (netF_of hok) hLO (by omega) hkN (by omega) hlo
   rw[hsame] at hcut
   have wk:IntKind.i64.wrap (1+x.1+(x.2.1.length:Int)+(i:Int))=(k:Int):=by rw[wrap_id (by omega) (by omega)];omega
   have w1:IntKind.i64.wrap ((i:Int)+1)=(i:Int)+1:=wrap_id (by omega) (by omega)
   have hst:=depK_succ (x:=x) (k:=i)
   have hdl:=depK_len (x:=x) (k:=i)
   rw[←hk] at hst
   have hatK:(labelsL x)[k]? = some (getZ (labelsL x) k):=by unfold getZ;rw[List.getElem?_eq_getElem (by omega)];rfl
   have hlt1:=decide_eq_true hlt
   generalize hcG x k (getZ (labelsL x) k) (labelsL x)=cq at *
   generalize cutZ cq=ct at *
   generalize cq.isSome=cb at *
   generalize depK x i=ds at *
   obtain⟨d2,hd2⟩:∃ d2,depK x (i+1)=d2:=⟨_,rfl⟩
   rw[hd2] at hst
   generalize getZ (labelsL x) k=lk at *
   generalize labelsL x=lab at *
   have hi1:i+1≠0:=by omega
   by_cases h0:i=0
   · subst h0
     have hds:ds=[]:=List.length_eq_zero_iff.1 hdl
     rw[hds,List.nil_append] at hst
     rw[dmC_nil,dmS_nil]
     simp[enGr,hlt1,hlt]
     refine call_step (firstAnd_con x ⟨n1,n2⟩ n3) ?_
     simp[show IntKind.i64.wrap (1+x.1+(x.2.1.length:Int))=(k:Int) by rw[wrap_id (by omega) (by omega)];omega]
     refine drawD_of 13 (by kernel_rfl) ?_
     simp[enGr,hatK]
     refine call_step (hcut) ?_
     simp[enGr]
     first | refine app_lit (q:=1) vt_el_29 (by exact rfl) (by simp) (by exact rfl) (by exact rfl) (by simp) (by simp) (by first | (simp;done)|(simp;omega)) ?_|refine app_row vt_el_29 (by exact rfl) (by simp) (by exact rfl) (by simp) (by first | (simp;done)|(simp;omega)) ?_
     simp[show IntKind.i64.wrap 1=1 from rfl]
     exact round_of hI hS hμ 1 (by omega) (by omega) ⟨[0,1,4],by simp[hd2,hst,dmC_row,dmS_row,enRow,e1,eInt,eSl]⟩
   · rw[dmC_row h0,dmS_row h0]
     simp[enGr,hlt1,hlt]
     refine call_step (firstAnd_con x ⟨n1,n2⟩ n3) ?_
     simp[wk]
     refine drawD_of 13 (by kernel_rfl) ?_
     simp[enGr,hatK]
     refine call_step (hcut) ?_
     simp[enGr]
     first | refine app_lit (q:=1) vt_el_29 (by exact rfl) (by simp) (by exact rfl) (by exact rfl) (by simp) (by simp) (by first | (simp;done)|(simp;omega)) ?_|refine app_row vt_el_29 (by exact rfl) (by simp) (by exact rfl) (by simp) (by first | (simp;done)|(simp;omega)) ?_
     simp[w1]
     exact round_of hI hS hμ (i+1) (by omega) (by omega) ⟨[0,1,5],by simp[hd2,hst,dmC_row hi1,dmS_row hi1,enRow,e1,eInt,eSl]⟩
 · obtain rfl:i=x.2.2.1.length:=by omega
   by_cases h0:x.2.2.1.length=0
   · have hd0:depK x x.2.2.1.length=[]:=by rw[h0];rfl
     rw[hd0,h0,dmC_nil,dmS_nil]
     simp[enGr]
   · rw[dmC_row h0,dmS_row h0]
     simp[enGr]
end Go.Proofs.Ytakohcpfjkcfdaa
