/-
  The reference's labels and its mapping of least depth, by abstract walks.
  Conditions: those typed in each theorem.
-/
import Derived.Test.YtakohcpfjkcfdaaFh
import Derived.Test.YtakohcpfjkcfdaaNi
namespace Go.Proofs.Ytakohcpfjkcfdaa
open Go.RowKit Go.ChangeShapes Go.WideShapes
set_option linter.unusedVariables false
set_option linter.unusedSimpArgs false
attribute [local simp ↓] condG_true condG_false condB_true condB_false
attribute [local simp] AWp_skip AWp_region_t AWp_region_d AWp_region_f still_mk AWp_seq AWp_cond condV_bool condB AWp_block AWp_exit AWp_ret
attribute [local simp] AOps_nil AOp_move AOp_assign AOp_pick AOp_binOp AOp_unOp AOp_convert AOp_len AOp_max AOp_min AOp_indexAddr AOp_load
attribute [local simp] AOp_fieldAddr AOp_field AOp_extract AOp_nilCheck AOp_build AOp_alloc AOp_box AOp_call AOp_store AOp_append AOp_buildSlice nextB_some
attribute [local simp] nextB_none adoptO adoptC AOp_makeSlice AOp_slice AOp_makeFunc AOp_guard guardD_some guardG_bool guardG_undef nextO_some nextS_some
attribute [local simp] nextZ_some nextL_some nextM_some nextT_some sliceO sliceL sliceT partO partV boundV funcO pickO
attribute [local simp] convO lenO maxO minO idxO extO nilO buildO litO litC makeO chunks
attribute [local simp] fillV placeOf thenA inBlockA St.get St.put St.eval ofCell evalT abin_add abin_sub abin_mul
attribute [local simp] abin_quo abin_rem abin_and abin_or abin_xor abin_andNot abin_shl abin_shr abin_shlu abin_eql abin_eqp abin_neq
attribute [local simp] abin_lss abin_leq abin_gtr abin_geq abin_eqlb abin_neqb aun pickV lenV intOf? indexV takeD
attribute [local simp] takeV loadV fieldAddrV fieldV ofX presD presDs pres presAll cellsV V.cell storeV
attribute [local simp] freezeC putAt kill takeC plains plainV scalarV nat_neg keepT sets eSl e1
attribute [local simp] e2 e3 e4 eInt eBool abinS_d abinS_agg abinS nilEq abin_eqb AOp_makeMap AOp_lookup
attribute [local simp] AOp_mapUpdate lookG_some updG_some mapV kyOf vlOf lookV vlV buildA afterCall inst inst1
attribute [local simp] inst1s instD instDs RetA resVs resV gives give1 give1s Le isPin leSlots
attribute [local simp] leS leTmps leV le0 le0s ren ren0 renS ren0s frame enterT afterT_some
attribute [local simp] afterC_some lives Slot.live arrsOk viewV view0 renT rens renSs setAll List.range'_succ RetT
attribute [local simp] RetW joinV leT AOpsE_nil AOpsE_cons AOpsT_nil AOpsT_cons isCallT isFnO callOf callVC_fn condC_true
attribute [local simp] condC_false beginT_mk thenT_mk pickE pickT isT loose namesOf namesV names1 names0 stableN
attribute [local simp] sameAt Op.operands Call.operands
theorem labOk_set {N F:Nat} {ka kb:Nat→Nat} {m:Nat} {lab:List Int} (hk:∀ p,F≤p→p<N→ka p<p∧kb p<p) (h:LabOk N F ka kb m lab) (hF:F≤m) (hm:m<N) {z:Int} (hz:0≤z):LabOk N F ka kb m (lab.set m z):=by
 have hg:∀ k,getZ (lab.set m z) k=if k=m then z else getZ lab k:=fun k=>getZ_set (by rw[h.len];exact hm)
 have hkm:∀ k,F≤k→k<m→kidM ka kb (lab.set m z) k=kidM ka kb lab k:=fun k h1 h2=>by
  have:=hk k h1 (by omega)
  unfold kidM
  rw[hg,hg,if_neg (by omega),if_neg (by omega)]
 refine⟨by simp[h.len],fun k hk=>by rw[hg,if_neg (by omega)];exact h.leaf k hk,fun k h1 h2=>?_,fun k h1 h2=>?_,fun k=>?_⟩
 · rw[hkm k h1 h2,hg,if_neg (by omega)];exact h.lo k h1 h2
 · rw[hkm k h1 h2,hg,if_neg (by omega)];exact h.hi k h1 h2
 · rw[hg];split
   · exact hz
   · exact h.pos k
theorem lab_bnd {N F:Nat} {ka kb:Nat→Nat} {cn:Nat→List Bool} (hn:NetF N F ka kb cn):∀ (i k:Nat),F+i≤N→getZ (labK N F ka kb cn i) k≤i
 | 0,k,_=>by unfold labK;rw[getZ_rep];omega
 | i+1,k,hi=>by
   have ih:=fun k=>lab_bnd hn i k (by omega)
   show getZ ((labK N F ka kb cn i).set (F+i) (labOf N F ka kb cn (labK N F ka kb cn i) (F+i))) k≤_
   rw[getZ_set (by rw[(labK_ok hn i (by omega)).len];omega)]
   split
   · have h1:=ih (ka (F+i))
     have h2:=ih (kb (F+i))
     unfold labOf kidM
     split<;>omega
   · have:=ih k;omega
abbrev labG (x:GrD) (i:Nat):List Int:=labK (grN x) (firstG x) (kidA x) (kidB x) (coneL x) i
def labelsL (x:GrD):List Int:=labF (grN x) (firstG x) (kidA x) (kidB x) (coneL x)
theorem labelsL_eq {x:GrD}:labelsL x=labG x x.2.2.1.length:=by
 have hN:=grN_eq x
 unfold labelsL labF
 rw[show grN x - firstG x=x.2.2.1.length by omega]
theorem labelsL_ok {x:GrD} (hok:netOkB x=true):LabOk (grN x) (firstG x) (kidA x) (kidB x) (grN x) (labelsL x):=labF_ok (netF_of hok) (by have:=grN_eq x;omega)
theorem mx_max (a b:Int):(if a<b then b else a)=max a b:=by split<;>omega
def labZ (x:GrD):List Int:=if netOkB x=true then labelsL x else []
set_option maxRecDepth 100000 in
set_option maxHeartbeats 4000000 in
theorem sLabels_con (x:GrD) (hx:fitGr 1048576 x) (hg:okGr x):ConC Try.prog 20 [igr x] (ints (labZ x)):=by
 have kok:=sNetOk_con x hx hg
 have hB:labZ x=if netOkB x=true then labelsL x else []:=rfl
 cases hok:netOkB x with
 | false =>
   rw[if_neg (by simp[hok])] at hB
   rw[hok] at kok
   refine con_of (by kernel_rfl) Try.func20 rfl rfl rfl ?_
   simp[enGr]
   refine call_step (kok) ?_
   simp[enGr,hB]
 | true =>
 rw[if_pos hok,labelsL_eq] at hB
 rw[hB]
 obtain⟨⟨n1,n2,n3,n4,n5,n6⟩,-,-,-⟩:=netOk_of hok
 obtain⟨hF',hgl,hNi,hno⟩:=ok_sizes hok
 have hN:=grN_eq x
 have hNF:=netF_of hok
 have hrepI:List.replicate (grN x) [D.int .i64 0]=(List.replicate (grN x) (0:Int)).map (e1 eInt):=by simp[e1,eInt]
 rw[hok] at kok
 refine con_of (by kernel_rfl) Try.func20 rfl rfl rfl ?_
 simp[enGr]
 refine call_step (kok) ?_
 simp[enGr]
 refine call_step (sNodeCount_con x) ?_
 simp[hno]
 refine⟨by omega,?_⟩
 rw[hrepI]
 refine call_step (sFirst_con x ⟨n1,n2⟩ n3) ?_
 simp
 refine aw_loopU [false,true,false,true,true,false,false,false,false,false,false,false,false,false,false,false,false,false,false,false,false,false,false,false,false,false,false,false,false,false,false,false,false,false,false,false,false,false,false,false,false,false,false,false,false,false,false,false,false,false,false,false,false,false,false,false,false,false,false,false,false,false,false,false,false,false] (fun i:Nat=>i≤x.2.2.1.length) (fun i:Nat=>[(4,.d (.int .i64 ((firstG x+i:Nat):Int)))]) (fun i:Nat=>[(1,.arr 3 true ((labG x i).map (e1 eInt)))]) (fun i:Nat=>x.2.2.1.length - i) 0 ?_ ?_ ?_
 · exact Nat.zero_le _
 · exact⟨[0,1],by simp[labK,hF']⟩
 rintro I S μ hI hS hμ i hi
 obtain⟨k,hk⟩:∃ k,k=firstG x+i:=⟨_,rfl⟩
 rw[←hk]
 by_cases hlt:i<x.2.2.1.length
 case neg =>
  obtain rfl:i=x.2.2.1.length:=by omega
  simp[enGr]
  refine call_step (sNodeCount_con x) ?_
  simp[hno,show ¬ (k:Int)<(grN x:Int) by omega]
 have hkN:k<grN x:=by omega
 have hLi:=labK_ok hNF i (by omega)
 rw[←hk] at hLi
 have hbnd:∀ q,getZ (labG x i) q≤i:=fun q=>lab_bnd hNF i q (by omega)
 have hpos:∀ q,0≤getZ (labG x i) q:=hLi.pos
 have hll:(labG x i).length=grN x:=hLi.len
 have hst:labG x (i+1)=(labG x i).set k (labOf (grN x) (firstG x) (kidA x) (kidB x) (coneL x) (labG x i) k):=by rw[hk];rfl
 obtain⟨ha,a1,a2,a3,a4,a5,a6⟩:=and_at hok (v:=k) (by omega) hkN
 have hL2:(enAnd (andAt x k)).length=2:=rfl
 have wk:IntKind.i64.wrap ((k:Int)+1)=((firstG x+(i+1):Nat):Int):=by rw[wrap_id (by omega) (by omega)];omega
 have wf:IntKind.i64.wrap ((k:Int) - (1+x.1+(x.2.1.length:Int)))=((k - firstG x:Nat):Int):=by rw[wrap_id (by omega) (by omega)];omega
 have q1:IntKind.i64.wrap ((andAt x k).1.tdiv 2)=(kidA x k:Int):=by rw[Int.tdiv_eq_ediv_of_nonneg a1,a3];exact wrap_id (by omega) (by omega)
 have q2:IntKind.i64.wrap ((andAt x k).2.tdiv 2)=(kidB x k:Int):=by rw[Int.tdiv_eq_ediv_of_nonneg a2,a4];exact wrap_id (by omega) (by omega)
 have hatA:(labG x i)[kidA x k]? = some (getZ (labG x i) (kidA x k)):=by unfold getZ;rw[List.getElem?_eq_getElem (by omega)];rfl
 have hatB:(labG x i)[kidB x k]? = some (getZ (labG x i) (kidB x k)):=by unfold getZ;rw[List.getElem?_eq_getElem (by omega)];rfl
 have hatK:(labG x i)[k]? = some (getZ (labG x i) k):=by unfold getZ;rw[List.getElem?_eq_getElem (by omega)];rfl
 have hmx:(if getZ (labG x i) (kidA x k)<getZ (labG x i) (kidB x k) then getZ (labG x i) (kidB x k) else getZ (labG x i) (kidA x k))=kidM (kidA x) (kidB x) (labG x i) k:=mx_max _ _
 have hp0:0≤kidM (kidA x) (kidB x) (labG x i) k∧kidM (kidA x) (kidB x) (labG x i) k≤i:=by
  have h1:=hpos (kidA x k)
  have h2:=hbnd (kidA x k)
  have h3:=hbnd (kidB x k)
  unfold kidM;omega
 have hcut:=fun hh=>l17Cut_con x ((labG x i).set k (kidM (kidA x) (kidB x) (labG x i) k+1)) k k (kidM (kidA x) (kidB x) (labG x i) k) hx hg hok (by omega) hkN (labOk_set hNF.kids hLi (by omega) hkN (by omega)) (Nat.le_refl _) hh
 have hups:hcG x k (kidM (kidA x) (kidB x) (labG x i) k) ((labG x i).set k (kidM (kidA x) (kidB x) (labG x i) k+1))=hcG x k (kidM (kidA x) (kidB x) (labG x i) k) (labG x i):=by
  show goS _ _ _ _ (upL _ _ _ _ _) _ _=goS _ _ _ _ (upL _ _ _ _ _) _ _
  rw[upL_set hNF hkN hll]
 rw[hups] at hcut
 have hlo:labOf (grN x) (firstG x) (kidA x) (kidB x) (coneL x) (labG x i) k=if 0<kidM (kidA x) (kidB x) (labG x i) k∧(hcG x k (kidM (kidA x) (kidB x) (labG x i) k) (labG x i)).isSome=true then kidM (kidA x) (kidB x) (labG x i) k else kidM (kidA x) (kidB x) (labG x i) k+1:=rfl
 rw[hlo] at hst
 clear hlo
 generalize hcq:hcG x k (kidM (kidA x) (kidB x) (labG x i) k) (labG x i)=cq at *
 have wp:IntKind.i64.wrap (kidM (kidA x) (kidB x) (labG x i) k+1)=kidM (kidA x) (kidB x) (labG x i) k+1:=wrap_id (by omega) (by omega)
 have hset1:=setI (lv:=labG x i) (i:=k) (v:=kidM (kidA x) (kidB x) (labG x i) k+1)
 have hss:∀ z:Int,((labG x i).set k (kidM (kidA x) (kidB x) (labG x i) k+1)).set k z=(labG x i).set k z:=fun z=>by rw[List.set_set]
 generalize getZ (labG x i) (kidA x k)=za at *
 generalize getZ (labG x i) (kidB x k)=zb at *
 generalize getZ (labG x i) k=zk at *
 generalize kidM (kidA x) (kidB x) (labG x i) k=pm at *
 generalize kidA x k=ka at *
 generalize kidB x k=kb at *
 generalize andAt x k=an at *
 obtain⟨l2,hl2⟩:∃ l2,labG x (i+1)=l2:=⟨_,rfl⟩
 rw[hl2] at hst
 generalize hl0:labG x i=l0 at *
 obtain⟨l1,hl1⟩:∃ l1,l0.set k (pm+1)=l1:=⟨_,rfl⟩
 rw[hl1] at hset1 hcut hss
 have hat1:l1[k]? = some (getZ l1 k):=by unfold getZ;rw[List.getElem?_eq_getElem (by rw[←hl1,List.length_set];omega)];rfl
 generalize getZ l1 k=z1 at *
 simp[enGr]
 refine call_step (sNodeCount_con x) ?_
 simp[hno,show (k:Int)<(grN x:Int) by omega]
 refine⟨by kernel_rfl,?_⟩
 refine call_step (sFirst_con x ⟨n1,n2⟩ n3) ?_
 simp[wf,ha,hL2,enAnd]
 refine⟨by kernel_rfl,?_⟩
 by_cases hp:0<pm
 · simp[q1,q2,hatA,hatB,hatK,hmx,wp,hset1,hp,decide_eq_true hp]
   refine call_step (hcut (by omega)) ?_
   simp[enGr]
   cases cq with
   | none =>
     rw[if_neg (by simp)] at hst
     rw[hl1] at hst
     simp[wk]
     exact round_of hI hS hμ (i+1) (by omega) (by omega) ⟨[0,1],by simp[hl2,hst]⟩
   | some cs =>
     rw[if_pos ⟨hp,rfl⟩] at hst
     have hset2:=setI (lv:=l1) (i:=k) (v:=pm)
     rw[hss,←hst] at hset2
     simp[hat1,hset2,wk]
     exact round_of hI hS hμ (i+1) (by omega) (by omega) ⟨[0,1],by simp[hl2]⟩
 · rw[if_neg (fun h=>hp h.1),hl1] at hst
   simp[q1,q2,hatA,hatB,hatK,hmx,wp,hset1,hp,decide_eq_false hp,wk]
   exact round_of hI hS hμ (i+1) (by omega) (by omega) ⟨[0,1],by simp[hl2,hst]⟩
def depK (x:GrD) (k:Nat):List RowD:=(List.range k).map fun i=>cutZ (hcG x (firstG x+i) (getZ (labelsL x) (firstG x+i)) (labelsL x))
def depthMap (x:GrD):List RowD:=if netOkB x=true then depK x x.2.2.1.length else []
theorem depK_succ {x:GrD} {k:Nat}:depK x (k+1)=depK x k++[cutZ (hcG x (firstG x+k) (getZ (labelsL x) (firstG x+k)) (labelsL x))]:=by simp[depK,List.range_succ]
theorem depK_len {x:GrD} {k:Nat}:(depK x k).length=k:=by simp[depK]
set_option maxRecDepth 100000 in
set_option maxHeartbeats 4000000 in
theorem sDepth_con' (x:GrD) (hx:fitGr 1048576 x) (hg:okGr x):ConC Try.prog 49 [igr x] (irows (depthMap x)):=by
 have kok:=sNetOk_con x hx hg
 have klab:=sLabels_con x hx hg
 have hB:depthMap x=if netOkB x=true then depK x x.2.2.1.length else []:=rfl
 have hZ:labZ x=if netOkB x=true then labelsL x else []:=rfl
 cases hok:netOkB x with
 | false =>
   rw[if_neg (by simp[hok])] at hB
   rw[hok] at kok
   refine con_of (by kernel_rfl) Try.func49 rfl rfl rfl ?_
   simp[enGr]
   refine call_step (kok) ?_
   simp[enGr,hB]
 | true =>
 rw[if_pos hok] at hB hZ
 rw[hB]
 rw[hZ] at klab
 obtain⟨⟨n1,n2,n3,n4,n5,n6⟩,-,-,-⟩:=netOk_of hok
 obtain⟨hF',hgl,hNi,hno⟩:=ok_sizes hok
 have hN:=grN_eq x
 have hLO:=labelsL_ok hok
 have hll:=hLO.len
 rw[hok] at kok
 refine con_of (by kernel_rfl) Try.func49 rfl rfl rfl ?_
 simp[enGr]
 refine call_step (kok) ?_
 simp[enGr]
 refine call_step (klab) ?_
 simp[enGr]
 refine call_step (sFirst_con x ⟨n1,n2⟩ n3) ?_
 simp
 refine aw_loopU [false,true,false,true,true,true,false,false,false,false,false,false,false,false,false,false,false,false,false,false,false,false,false,false,false,false,false,false,false,false,false,false,false,false,false,false,false,false,false] (fun i:Nat=>i≤x.2.2.1.length) (fun i:Nat=>[(5,.d (.int .i64 ((firstG x+i:Nat):Int)))]) (fun i:Nat=>[(1,.arr 26 true ((depK x i).map enRow))]) (fun i:Nat=>x.2.2.1.length - i) 0 ?_ ?_ ?_
 · exact Nat.zero_le _
 · exact⟨[0,1,2],by simp[depK,hF']⟩
 rintro I S μ hI hS hμ i hi
 obtain⟨k,hk⟩:∃ k,k=firstG x+i:=⟨_,rfl⟩
 rw[←hk]
 by_cases hlt:i<x.2.2.1.length
 case neg =>
  obtain rfl:i=x.2.2.1.length:=by omega
  simp[enGr]
  refine call_step (sNodeCount_con x) ?_
  simp[hno,show ¬ (k:Int)<(grN x:Int) by omega]
 have hkN:k<grN x:=by omega
 have hlo:=(hLO.lo k (by omega) hkN).1
 have hcut:=l17Cut_con x (labelsL x) k (grN x) (getZ (labelsL x) k) hx hg hok (by omega) hkN hLO (by omega) hlo
 have wk:IntKind.i64.wrap ((k:Int)+1)=((firstG x+(i+1):Nat):Int):=by rw[wrap_id (by omega) (by omega)];omega
 have hst:=depK_succ (x:=x) (k:=i)
 have hdl:=depK_len (x:=x) (k:=i)
 rw[←hk] at hst
 have hatK:(labelsL x)[k]? = some (getZ (labelsL x) k):=by unfold getZ;rw[List.getElem?_eq_getElem (by omega)];rfl
 generalize hcG x k (getZ (labelsL x) k) (labelsL x)=cq at *
 generalize cutZ cq=ct at *
 generalize cq.isSome=cb at *
 generalize depK x i=ds at *
 obtain⟨d2,hd2⟩:∃ d2,depK x (i+1)=d2:=⟨_,rfl⟩
 rw[hd2] at hst
 generalize getZ (labelsL x) k=lk at *
 generalize labelsL x=lab at *
 simp[enGr]
 refine call_step (sNodeCount_con x) ?_
 simp[hno,show (k:Int)<(grN x:Int) by omega]
 refine⟨by kernel_rfl,?_⟩
 simp[enGr,hatK]
 refine call_step (hcut) ?_
 simp[enGr]
 first | refine app_lit (q:=1) vt_el_29 (by exact rfl) (by simp) (by exact rfl) (by exact rfl) (by simp) (by simp) (by first | (simp;done)|(simp;omega)) ?_|refine app_row vt_el_29 (by exact rfl) (by simp) (by exact rfl) (by simp) (by first | (simp;done)|(simp;omega)) ?_
 simp[wk]
 exact round_of hI hS hμ (i+1) (by omega) (by omega) ⟨[0,5,2],by simp[hd2,hst,enRow,e1,eInt,eSl]⟩
end Go.Proofs.Ytakohcpfjkcfdaa
