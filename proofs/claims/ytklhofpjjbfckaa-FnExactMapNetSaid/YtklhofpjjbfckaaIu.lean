/-
  Area recovery, by the program and by the reference. Abstract walks.
  Conditions: those typed in each theorem.
-/
import Derived.Test.YtklhofpjjbfckaaIs
namespace Go.Proofs.Ytklhofpjjbfckaa
open Go.RowKit Go.ChangeShapes Go.WideShapes
set_option linter.unusedVariables false
set_option linter.unusedSimpArgs false
attribute [local simp ↓] condG_true condG_false condB_true condB_false
attribute [local simp] AWp_skip AWp_region_t AWp_region_d AWp_region_f still_mk AWp_seq AWp_cond condV_bool condB AWp_block AWp_exit AWp_ret
attribute [local simp] AOps_nil AOp_move AOp_assign AOp_pick AOp_binOp AOp_unOp AOp_convert AOp_len AOp_max AOp_min AOp_indexAddr AOp_load
attribute [local simp] AOp_fieldAddr AOp_field AOp_extract AOp_nilCheck AOp_build AOp_alloc AOp_box AOp_call AOp_store AOp_append AOp_buildSlice nextB_some
attribute [local simp] nextB_none adoptO adoptC AOp_makeSlice AOp_slice AOp_makeFunc AOp_guard guardD_some guardG_bool guardG_undef nextO_some nextS_some
attribute [local simp] nextZ_some nextL_some nextM_some nextT_some sliceO sliceL sliceT partO partV boundV funcO pickO
attribute [local simp] convO lenO maxO minO idxO extO nilO buildO litO litC makeO chunks
attribute [local simp] fillV placeOf thenA inBlockA St.get St.put St.eval ofCell evalT abin_add abin_sub abin_mul
attribute [local simp] abin_quo abin_rem abin_and abin_or abin_xor abin_andNot abin_shl abin_shr abin_shlu abin_eql abin_eqp abin_neq
attribute [local simp] abin_lss abin_leq abin_gtr abin_geq abin_eqlb abin_neqb aun pickV lenV intOf? indexV takeD
attribute [local simp] takeV loadV fieldAddrV fieldV ofX presD presDs pres presAll cellsV V.cell storeV
attribute [local simp] freezeC putAt kill takeC plains plainV scalarV nat_neg keepT sets eSl e1
attribute [local simp] e2 e3 e4 eInt eBool abinS_d abinS_agg abinS nilEq abin_eqb AOp_makeMap AOp_lookup
attribute [local simp] AOp_mapUpdate lookG_some updG_some mapV kyOf vlOf lookV vlV buildA afterCall inst inst1
attribute [local simp] inst1s instD instDs RetA resVs resV gives give1 give1s Le isPin leSlots
attribute [local simp] leS leTmps leV le0 le0s ren ren0 renS ren0s frame enterT afterT_some
attribute [local simp] afterC_some lives Slot.live arrsOk viewV view0 renT rens renSs setAll List.range'_succ RetT
attribute [local simp] RetW joinV leT AOpsE_nil AOpsE_cons AOpsT_nil AOpsT_cons isCallT isFnO callOf callVC_fn condC_true
attribute [local simp] condC_false beginT_mk thenT_mk pickE pickT isT loose namesOf namesV names1 names0 stableN
attribute [local simp] sameAt Op.operands Call.operands
attribute [local simp] mcone_len esc_len
theorem iRecover_con (x:GrD) (cs:List RowD) (hx:fitGr 1048576 x) (hc:fitRw 1048576 cs):ConC Try.prog 62 [igr x,irows cs] (irows (recL x cs)):=by
 have kO:=iMapOk_con x cs hx hc
 have hB:recL x cs=if mapOkB x cs=true then recK x cs x.2.2.1.length else []:=rfl
 refine con_of (by kernel_rfl) Try.func62 rfl rfl rfl ?_
 cases hm:mapOkB x cs with
 | false =>
   rw[hm] at kO
   rw[hm,if_neg (by simp)] at hB
   simp[enGr]
   refine call_step (kO) ?_
   simp[hB]
 | true =>
   rw[hm] at kO
   rw[hm,if_pos rfl] at hB
   have kR:=recoverArea_con x cs hx hm
   rw[←hB] at kR
   simp[enGr]
   refine call_step (kO) ?_
   simp
   refine call_step (kR) ?_
   simp
set_option maxRecDepth 100000 in
theorem sCopy_con (cs:List RowD) (hc:fitRw 1048576 cs):ConC Try.prog 149 [irows cs] (irows cs):=by
 obtain⟨hl,hm⟩:=hc
 refine con_of (by kernel_rfl) Try.func149 rfl rfl rfl ?_
 simp
 refine aw_loopN [true,false,false,true,true,false,false,false,false,false,false,false,false,false,false,false,false,false,false,false,false,false] (fun k:Nat=>k≤cs.length) (fun k:Nat=>[(3,.ref 0),(4,.d (.int .i64 k))]) (fun k:Nat=>fun _=>[.arr 26 true ((cs.take k).map enRow)]) (fun k:Nat=>cs.length - k) 0 ?_ ?_ ?_
 · exact Nat.zero_le _
 · exact⟨[0],by simp⟩
 rintro I S μ hI hS hμ k hk
 by_cases hlt:k<cs.length
 · have hx1:cs[k]? = some cs[k]:=List.getElem?_eq_getElem hlt
   have hcl:=hm _ (List.getElem_mem hlt)
   have hts:=take_snoc' hx1
   have hd:=decide_eq_true hlt
   have w2:IntKind.i64.wrap ((k:Int)+1)=((k+1:Nat):Int):=by rw[wrap_id (by omega) (by omega)];omega
   generalize cs[k]=c at *
   have hLc:(enRow c).length=1:=rfl
   have hmp:(cs.take (k+1)).map enRow=(cs.take k).map enRow++[[.sl 3 (c.map (e1 eInt))]]:=by rw[hts,List.map_append];rfl
   have htl:(cs.take k).length≤1048576:=by rw[List.length_take];omega
   obtain⟨l2,hl2⟩:∃ l2,(cs.take (k+1)).map enRow=l2:=⟨_,rfl⟩
   rw[hl2] at hmp
   clear hts
   generalize cs.take k=L at *
   simp[hd,hx1,hLc,enRow,e1,eSl]
   refine app_data vt_el_26 rfl (by simp) rfl (by simp) (by simp) (by first | (simp;done)|(simp;omega)) (by simp[flatP,flatD]) ?_
   simp[hx1,hLc,enRow,e1,eSl]
   first | refine app_lit (q:=1) vt_el_45 (by exact rfl) (by simp) (by exact rfl) (by exact rfl) (by simp) (by simp) (by first | (simp;done)|(simp;omega)) ?_|refine app_row vt_el_45 (by exact rfl) (by simp) (by exact rfl) (by simp) (by first | (simp;done)|(simp;omega)) ?_
   simp[w2]
   exact round_of hI hS hμ (k+1) (by omega) (by omega) ⟨[4],by simp[hl2,hmp]⟩
 · obtain rfl:k=cs.length:=by omega
   rw[List.take_length]
   simp[hlt,decide_eq_false hlt]
set_option maxRecDepth 100000 in
set_option maxHeartbeats 8000000 in
theorem sRecover_con (x:GrD) (cs:List RowD) (hx:fitGr 1048576 x) (hg:okGr x) (hc:fitRw 1048576 cs):ConC Try.prog 61 [igr x,irows cs] (irows (recL x cs)):=by
 have kO:=sMapOk_con x cs hx hg hc
 have hB:recL x cs=if mapOkB x cs=true then recK x cs x.2.2.1.length else []:=rfl
 cases hm:mapOkB x cs with
 | false =>
   rw[hm] at kO
   rw[hm,if_neg (by simp)] at hB
   refine con_ofD (by kernel_rfl) Try.func61 rfl rfl rfl ?_
   simp[enGr]
   refine call_step (kO) ?_
   simp[hB]
 | true =>
 rw[hm] at kO
 rw[hm,if_pos rfl] at hB
 rw[hB]
 obtain⟨hok,hl,hcs⟩:=mapOk_of hm
 obtain⟨⟨n1,n2,n3,n4,n5,n6⟩,-,-,-⟩:=netOk_of hok
 obtain⟨hF,hgl,hNi,hno⟩:=ok_sizes hok
 have hN:=grN_eq x
 have h1:1≤firstG x:=by unfold firstG;omega
 have kC:=sCopy_con cs hc
 have kA:=l13All_conT x (grN x - 1) hx hok (by omega)
 have kN:=sNodeCount_con x
 rw[hno] at kN
 have wN:IntKind.i64.wrap ((grN x:Int) - 1)=((grN x - 1:Nat):Int):=by rw[wrap_id (by omega) (by omega)];omega
 have wn:IntKind.i64.wrap ((cs.length:Int) - 1)=(x.2.2.1.length:Int) - 1:=by rw[wrap_id (by omega) (by omega)];omega
 have hrk:=fun j hj=>recK_nw hm j hj
 have kE:=sCopy_con (recK x cs x.2.2.1.length) (mapOk_rows2 (hrk _ (Nat.le_refl _)).1)
 refine con_ofD (by kernel_rfl) Try.func61 rfl rfl rfl ?_
 simp[enGr]
 refine call_step (kO) ?_
 simp
 refine call_step (kC) ?_
 simp
 refine drawD_of 4 (by kernel_rfl) ?_
 simp[enGr]
 refine call_step (kN) ?_
 simp[wN]
 refine callT_step (kA) [] [] (by simp) ?_
 simp[wn]
 refine aw_loopN [false,false,true,false,false,true,true,true,false,false,false,false,false,false,false,false,false,false,false,false,false,false,false,false,false,false,false,false,false,false,false,false,false,false,false,false,false,false,false,false,false,false,false,false,false,false,false,false,false,false,false,false,false,false,false,false,false,false,false,false,false,false,false,false,false,false,false,false,false,false] (fun j:Nat=>j≤x.2.2.1.length) (fun j:Nat=>[(5,.d (.sl 26 ((recK x cs j).map enRow))),(6,.d (.sl 45 ((allG x (grN x - 1)).map en3))),(7,.d (.int .i64 ((x.2.2.1.length:Int) - 1 - j)))]) (fun j:Nat=>fun _=>[Slot.var 28 [.d (.int .i64 x.1),.d (eSl 31 enSeq x.2.1),.d (eSl 61 enAnd x.2.2.1),.d (eSl 3 (e1 eInt) x.2.2.2)]]) (fun j:Nat=>x.2.2.1.length - j) 0 ?_ ?_ ?_
 · exact Nat.zero_le _
 · exact⟨[0],by simp[recK]⟩
 rintro I S μ hI hS hμ j hj
 obtain⟨z,hz⟩:∃ z:Int,z=(x.2.2.1.length:Int) - 1 - j:=⟨_,rfl⟩
 rw[←hz]
 by_cases hlt:j<x.2.2.1.length
 case neg =>
  obtain rfl:j=x.2.2.1.length:=by omega
  simp[show ¬ (0:Int)≤z by omega,show z<0 by omega]
  refine call_step (kE) ?_
  simp
 obtain⟨i,hi⟩:∃ i,x.2.2.1.length - 1 - j=i:=⟨_,rfl⟩
 obtain rfl:z=(i:Int):=by omega
 have hnw:=hrk j hj
 have hst:recK x cs (j+1)=ndR x (recK x cs j) i:=by rw[←hi];rfl
 have hz2:(x.2.2.1.length:Int) - 1 - ((j:Int)+1)=(i:Int) - 1:=by omega
 have wz:IntKind.i64.wrap ((i:Int) - 1)=(i:Int) - 1:=wrap_id (by omega) (by omega)
 obtain⟨r2,hr2⟩:∃ r2,recK x cs (j+1)=r2:=⟨_,rfl⟩
 rw[hr2] at hst
 clear hrk kE
 generalize recK x cs j=now at *
 have hmn:=hnw.1
 have hu:=sUsed_con x now hx (mapOk_rows2 hmn) hmn
 have hul:=usedL_len (x:=x) (cs:=now)
 have hat:=getB_at (s:=usedL x now) (v:=i) (by omega)
 have hno2:=ndR_no (x:=x) (now:=now) (i:=i)
 have hyes:=ndR_yes (x:=x) (now:=now) (i:=i)
 generalize usedL x now=u at *
 simp[show (0:Int)≤(i:Int) by omega]
 cases hb:getB u i with
 | false =>
   rw[hno2 hb] at hst
   rw[hb] at hat
   refine callT_step (hu) [] [] (by simp) ?_
   simp[hat,wz]
   exact round_of hI hS hμ (j+1) (by omega) (by omega) ⟨[0],by simp[hr2,hst,hz2]⟩
 | true =>
   rw[hyes hb] at hst
   rw[hb] at hat
   have hiN:firstG x+i<grN x:=by omega
   have hrs:=fun k c=>rowR_succ (x:=x) (i:=i) (now:=now) (k:=k) (c:=c)
   have hrn:=fun k h=>rowR_nw (x:=x) (i:=i) hmn hiN k h
   have hem:=enumL_map hok (i:=i) hiN
   obtain⟨q,hq⟩:∃ q,firstG x+i=q:=⟨_,rfl⟩
   rw[hq] at hst hrs hrn hem hiN
   obtain⟨e2,e8,eM⟩:=hem
   have hall:(allG x (grN x - 1))[q]? = some (enumL x q):=by
    rw[show allG x (grN x - 1)=allC (firstG x) (kidA x) (kidB x) (grN x - 1) from rfl,allC_stay (by omega)]
    unfold enumL
    obtain⟨l,hl1⟩:=allG_at (x:=x) (k:=q) (i:=q) (Nat.le_refl _)
    rw[show allC (firstG x) (kidA x) (kidB x) q=allG x q from rfl,hl1]
    rfl
   have wf:IntKind.i64.wrap (1+x.1+(x.2.1.length:Int)+(i:Int))=(q:Int):=by rw[wrap_id (by omega) (by omega)];omega
   generalize enumL x q=L at *
   have hgd:∀ k (c:RowD),L[k]? = some c→k+1<L.length→mapAtB x c i=true:=eM
   have w3:IntKind.i64.wrap ((L.length:Int) - 1)=((L.length - 1:Nat):Int):=by rw[wrap_id (by omega) (by omega)];omega
   have hLL:(en3 L).length=1:=rfl
   obtain⟨m,hmm⟩:∃ m,L.length - 1=m:=⟨_,rfl⟩
   rw[hmm] at hst hrn w3
   refine callT_step (hu) [] [] (by simp) ?_
   simp[hat]
   refine call_step (sFirst_con x ⟨n1,n2⟩ n3) ?_
   simp[wf,hall,hLL,en3,e1,eSl]
   refine aw_loopN [false,false,true,false,false,true,true,true,false,true,true,false,false,false,false,false,false,false,false,false,false,false,false,false,false,false,false,false,false,false,false,false,false,false,false,false,false,false,false,false,false,false,false,false,false,false,false,false,false,false,false,false,false,false,false,false,false,false,false,false,false,false,false,false,false,false,false,false,false,false] (fun k:Nat=>k≤m) (fun k:Nat=>[(5,.d (.sl 26 ((rowR x i now k).map enRow))),(10,.d (.int .i64 k))]) (fun k:Nat=>fun _=>[Slot.var 28 [.d (.int .i64 x.1),.d (eSl 31 enSeq x.2.1),.d (eSl 61 enAnd x.2.2.1),.d (eSl 3 (e1 eInt) x.2.2.2)]]) (fun k:Nat=>m - k) 0 ?_ ?_ ?_
   · exact Nat.zero_le _
   · exact⟨[0],by simp[rowR]⟩
   rintro I1 S1 μ1 hI1 hS1 hμ1 k hk
   by_cases hlk:k<m
   case neg =>
    obtain rfl:k=m:=by omega
    rw[←hst]
    simp[decide_eq_false hlk,hlk,wz,w3]
    exact round_of hI hS hμ (j+1) (by omega) (by omega) ⟨[0],by simp[hr2,hz2]⟩
   have hc1:L[k]? = some (L[k]'(by omega)):=List.getElem?_eq_getElem _
   have hst1:=hrs k _ hc1
   have hmc:=hgd k _ hc1 (by omega)
   generalize L[k]'(by omega)=c at *
   have hmk:=(hrn k hk).1
   obtain⟨r3,hr3⟩:∃ r3,rowR x i now (k+1)=r3:=⟨_,rfl⟩
   rw[hr3] at hst1
   generalize rowR x i now k=nk at *
   have hms:=mapOk_set hmk hmc
   have kb:=l19Better_con x (nk.set i c) nk hx (mapOk_rows2 hms) (mapOk_rows2 hmk) hms hmk
   have hLc:(enRow c).length=1:=rfl
   have hc4:c.length≤4:=((mapOk_of hms).2.2 i c (by rw[List.getElem?_set_self (by have:=(mapOk_of hmk).2.1;omega)])).2.1
   have wk:IntKind.i64.wrap ((k:Int)+1)=((k+1:Nat):Int):=by rw[wrap_id (by omega) (by omega)];omega
   have dk:=decide_eq_true hlk
   have hnl:nk.length=x.2.2.1.length:=(mapOk_of hmk).2.1
   obtain⟨c0,hc0⟩:∃ c0,nk[i]? = some c0:=⟨_,List.getElem?_eq_getElem (by omega)⟩
   have hset:(nk.map enRow).set i [.sl 3 (c.map (e1 eInt))]=(nk.set i c).map enRow:=by rw[List.map_set];rfl
   have hdef:stR x i nk c=if betterB x (nk.set i c) nk=true then nk.set i c else nk:=rfl
   rw[hdef] at hst1
   generalize nk.set i c=ns at *
   cases hbb:betterB x ns nk with
   | true =>
     rw[hbb] at kb
     rw[hbb,if_pos rfl] at hst1
     simp[dk,w3,hlk]
     refine app_frozen (by exact rfl) vt_el_45 (by exact rfl) (by simp) (by simp[enRow,e1]) (by first | (simp;done)|(simp;omega)) ?_
     simp[hc0,hc1,hLc,enRow,e1,eSl,hset]
     refine call_step (kb) ?_
     simp[wk]
     exact round_of hI1 hS1 hμ1 (k+1) (by omega) (by omega) ⟨[0],by simp[hr3,hst1]⟩
   | false =>
     rw[hbb] at kb
     rw[hbb,if_neg (by simp)] at hst1
     simp[dk,w3,hlk]
     refine app_frozen (by exact rfl) vt_el_45 (by exact rfl) (by simp) (by simp[enRow,e1]) (by first | (simp;done)|(simp;omega)) ?_
     simp[hc0,hc1,hLc,enRow,e1,eSl,hset]
     refine call_step (kb) ?_
     simp[wk]
     exact round_of hI1 hS1 hμ1 (k+1) (by omega) (by omega) ⟨[0],by simp[hr3,hst1]⟩
end Go.Proofs.Ytklhofpjjbfckaa
