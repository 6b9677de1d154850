/-
  Area recovery, by the program. Abstract walks.
  Conditions: those typed in each theorem.
-/
import Derived.Test.YtakohcpfjkcfdaaIt
import Derived.Test.YtakohcpfjkcfdaaJa
namespace Go.Proofs.Ytakohcpfjkcfdaa
open Go.RowKit Go.ChangeShapes Go.WideShapes
set_option linter.unusedVariables false
set_option linter.unusedSimpArgs false
attribute [local simp ↓] condG_true condG_false condB_true condB_false
attribute [local simp] AWp_skip AWp_region_t AWp_region_d AWp_region_f still_mk AWp_seq AWp_cond condV_bool condB AWp_block AWp_exit AWp_ret
attribute [local simp] AOps_nil AOp_move AOp_assign AOp_pick AOp_binOp AOp_unOp AOp_convert AOp_len AOp_max AOp_min AOp_indexAddr AOp_load
attribute [local simp] AOp_fieldAddr AOp_field AOp_extract AOp_nilCheck AOp_build AOp_alloc AOp_box AOp_call AOp_store AOp_append AOp_buildSlice nextB_some
attribute [local simp] nextB_none adoptO adoptC AOp_makeSlice AOp_slice AOp_makeFunc AOp_guard guardD_some guardG_bool guardG_undef nextO_some nextS_some
attribute [local simp] nextZ_some nextL_some nextM_some nextT_some sliceO sliceL sliceT partO partV boundV funcO pickO
attribute [local simp] convO lenO maxO minO idxO extO nilO buildO litO litC makeO chunks
attribute [local simp] fillV placeOf thenA inBlockA St.get St.put St.eval ofCell evalT abin_add abin_sub abin_mul
attribute [local simp] abin_quo abin_rem abin_and abin_or abin_xor abin_andNot abin_shl abin_shr abin_shlu abin_eql abin_eqp abin_neq
attribute [local simp] abin_lss abin_leq abin_gtr abin_geq abin_eqlb abin_neqb aun pickV lenV intOf? indexV takeD
attribute [local simp] takeV loadV fieldAddrV fieldV ofX presD presDs pres presAll cellsV V.cell storeV
attribute [local simp] freezeC putAt kill takeC plains plainV scalarV nat_neg keepT sets eSl e1
attribute [local simp] e2 e3 e4 eInt eBool abinS_d abinS_agg abinS nilEq abin_eqb AOp_makeMap AOp_lookup
attribute [local simp] AOp_mapUpdate lookG_some updG_some mapV kyOf vlOf lookV vlV buildA afterCall inst inst1
attribute [local simp] inst1s instD instDs RetA resVs resV gives give1 give1s Le isPin leSlots
attribute [local simp] leS leTmps leV le0 le0s ren ren0 renS ren0s frame enterT afterT_some
attribute [local simp] afterC_some lives Slot.live arrsOk viewV view0 renT rens renSs setAll List.range'_succ RetT
attribute [local simp] RetW joinV leT AOpsE_nil AOpsE_cons AOpsT_nil AOpsT_cons isCallT isFnO callOf callVC_fn condC_true
attribute [local simp] condC_false beginT_mk thenT_mk pickE pickT isT loose namesOf namesV names1 names0 stableN
attribute [local simp] sameAt Op.operands Call.operands
attribute [local simp] mcone_len esc_len
def oV (L:Rws):V:=if L=[] then .nil 26 else .ref 0
def oS (L:Rws):List Slot:=if L=[] then [] else [.arr 26 true (L.map enRow)]
theorem oV_row {L:Rws} (h:L≠[]):oV L=.ref 0:=if_neg h
theorem oS_row {L:Rws} (h:L≠[]):oS L=[.arr 26 true (L.map enRow)]:=if_neg h
theorem oV_nil:oV []=.nil 26:=rfl
theorem oS_nil:oS []=[]:=rfl
set_option maxRecDepth 100000 in
theorem copyLists_con (cs:List RowD) (hc:fitRw 1048576 cs):ConC Try.prog 61 [irows cs] (irows cs):=by
 obtain⟨hl,hm⟩:=hc
 refine con_of (by kernel_rfl) Try.func61 rfl rfl rfl ?_
 simp
 refine aw_loopN [false,false,false,true,false,false,true,true,true,false,false,false,false,false,false,false,false,false,false] (fun k:Nat=>k≤cs.length) (fun k:Nat=>[(3,oV (cs.take k)),(8,.d (.int .i64 k))]) (fun k:Nat=>fun _=>oS (cs.take k)) (fun k:Nat=>cs.length - k) 0 ?_ ?_ ?_
 · exact Nat.zero_le _
 · exact⟨[],by simp[oV,oS]⟩
 rintro I S μ hI hS hμ k hk
 by_cases hlt:k<cs.length
 · have hx1:cs[k]? = some cs[k]:=List.getElem?_eq_getElem hlt
   have hcl:=hm _ (List.getElem_mem hlt)
   have hts:=take_snoc' hx1
   have hd:=decide_eq_true hlt
   have w2:IntKind.i64.wrap ((k:Int)+1)=((k+1:Nat):Int):=by rw[wrap_id (by omega) (by omega)];omega
   generalize cs[k]=c at *
   have kc:=copyInts_con c hcl
   have hLc:(enRow c).length=1:=rfl
   have hne:cs.take (k+1)≠[]:=by rw[hts];simp
   have hmp:(cs.take (k+1)).map enRow=(cs.take k).map enRow++[[.sl 3 (c.map (e1 eInt))]]:=by rw[hts,List.map_append];rfl
   obtain⟨l2,hl2⟩:∃ l2,cs.take (k+1)=l2:=⟨_,rfl⟩
   rw[hl2] at hne hmp
   clear hts
   have htl:(cs.take k).length≤1048576:=by simp;omega
   by_cases h0:cs.take k=[]
   · rw[h0] at hmp
     rw[h0,oV_nil,oS_nil]
     simp[hd,hx1,hLc,enRow,e1,eSl]
     refine call_step (kc) ?_
     simp
     first | refine app_lit (q:=1) vt_el_29 (by exact rfl) (by simp) (by exact rfl) (by exact rfl) (by simp) (by simp) (by first | (simp;done)|(simp;omega)) ?_|refine app_row vt_el_29 (by exact rfl) (by simp) (by exact rfl) (by simp) (by first | (simp;done)|(simp;omega)) ?_
     simp[w2]
     exact round_of hI hS hμ (k+1) (by omega) (by omega) ⟨[2],by simp[hl2,oV_row hne,oS_row hne,hmp]⟩
   · rw[oV_row h0,oS_row h0]
     generalize cs.take k=L at *
     simp[hd,hx1,hLc,enRow,e1,eSl]
     refine call_step (kc) ?_
     simp
     first | refine app_lit (q:=1) vt_el_29 (by exact rfl) (by simp) (by exact rfl) (by exact rfl) (by simp) (by simp) (by first | (simp;done)|(simp;omega)) ?_|refine app_row vt_el_29 (by exact rfl) (by simp) (by exact rfl) (by simp) (by first | (simp;done)|(simp;omega)) ?_
     simp[w2]
     exact round_of hI hS hμ (k+1) (by omega) (by omega) ⟨[3],by simp[hl2,oV_row hne,oS_row hne,hmp]⟩
 · obtain rfl:k=cs.length:=by omega
   rw[List.take_length]
   by_cases h0:cs=[]
   · rw[h0,oV_nil,oS_nil]
     simp[hlt]
   · rw[oV_row h0,oS_row h0]
     simp[hlt]
set_option maxRecDepth 100000 in
set_option maxHeartbeats 1000000 in
theorem iUsed2_conT (x:GrD) (cs:List RowD) (hx:fitGr 1048576 x) (hc:fitRw 1048576 cs) (hm:mapOkB x cs=true):ConT Try.prog 57 [vgr x,.ref 0] [.arr 26 true (cs.map enRow)] (.d (eSl 4 (e1 eBool) (usedL x cs))) [.arr 26 true (cs.map enRow)]:=by
 obtain⟨hok,hl,hcs⟩:=mapOk_of hm
 obtain⟨⟨n1,n2,n3,n4,n5,n6⟩,-,-,-⟩:=netOk_of hok
 obtain⟨hF,hgl,hNi,hno⟩:=ok_sizes hok
 have hN:=grN_eq x
 have hNt:(1+x.1+(x.2.1.length:Int)+(x.2.2.1.length:Int)).toNat=grN x:=by omega
 have hrl:=rootsN_len hok
 have hri:=rootsN_in hok
 have hu0:usM x cs 0=rtM (List.replicate (grN x) false) (grRoots x) (grRoots x).length:=rfl
 have hlr:∀ k,(rtM (List.replicate (grN x) false) (grRoots x) k).length=grN x:=fun k=>by rw[rtM_len];simp
 refine conT_of (by kernel_rfl) Try.func57 rfl rfl rfl (by simp[laters,Later]) (by simp[lives,Slot.live]) ?_
 simp[enGr]
 refine call_step (iNodeCnt_con x ⟨n1,n2⟩ n3 n4) ?_
 simp
 refine⟨by omega,?_⟩
 rw[hNt]
 refine call_step (iRoots_con x hx n3) ?_
 simp
 generalize grRoots x=rs at *
 have hr0:(rtM (List.replicate (grN x) false) rs 0).map (e1 eBool)=List.replicate (grN x) [D.bool false]:=by rw[rep_bools];rfl
 generalize List.replicate (grN x) false=s0 at *
 refine aw_loopU [false,true,true,false,false,true,false,false,false,false,false,false,false,false,false,true,true,true,false,false,false,false,false,false,false,false,false,false,false,false,false,false,false,false,false,false,false,false,false,false,false,false,false,false,false,false,false,false,false,false,false,false,false,false,false,false,false] (fun k:Nat=>k≤rs.length) (fun k:Nat=>[(17,.d (.int .i64 k))]) (fun k:Nat=>[(2,.arr 4 true ((rtM s0 rs k).map (e1 eBool)))]) (fun k:Nat=>rs.length - k) 0 ?_ ?_ ?_
 · simp
 · exact⟨[0,1,2,3],by simp[hr0]⟩
 rintro I S μ hI hS hμ k hk
 have hlk:=hlr k
 by_cases hlt:k<rs.length
 · have hx1:rs[k]? = some rs[k]:=List.getElem?_eq_getElem hlt
   have w2:IntKind.i64.wrap ((k:Int)+1)=(k:Int)+1:=wrap_id (by omega) (by omega)
   have hd:decide (k<rs.length)=true:=decide_eq_true hlt
   have hyr:=hri _ (List.getElem_mem hlt)
   have hnx:rtM s0 rs (k+1)=(rtM s0 rs k).set (rs[k] / 2).toNat true:=by simp[rtM,atI_get hx1]
   generalize rs[k]=y at *
   generalize rtM s0 rs k=s at *
   obtain⟨q,hq⟩:∃ q:Nat,(q:Int)=y / 2:=⟨(y / 2).toNat,by omega⟩
   rw[←hq,Int.toNat_natCast] at hnx
   have q1:IntKind.i64.wrap (y.tdiv 2)=(q:Int):=by rw[Int.tdiv_eq_ediv_of_nonneg hyr.1,←hq];exact wrap_id (by omega) (by omega)
   have hat:=getB_at (s:=s) (v:=q) (by omega)
   have hset:=map_setB (s:=s) (v:=q) (b:=true)
   generalize s.set q true=sq at *
   simp[hd,hx1,q1,hat,hset,w2]
   exact round_of hI hS hμ (k+1) (by omega) (by omega) ⟨[0,1,2,3],by simp[hnx]⟩
 have hk':k=rs.length:=by omega
 subst hk'
 rw[←hu0]
 have w0:IntKind.i64.wrap ((cs.length:Int) - 1)=(cs.length:Int) - 1:=wrap_id (by omega) (by omega)
 clear hI hS hμ
 simp[hlt,w0]
 refine aw_loopU [false,true,true,false,false,true,false,false,true,false,false,false,false,false,false,false,false,false,false,false,false,false,false,false,false,false,false,false,false,false,false,false,false,false,false,false,false,false,false,false,false,false,false,false,false,false,false,false,false,false,false,false,false,false,false,false,false] (fun j:Nat=>j≤cs.length) (fun j:Nat=>[(8,.d (.int .i64 ((cs.length:Int) - 1 - j)))]) (fun j:Nat=>[(2,.arr 4 true ((usM x cs j).map (e1 eBool)))]) (fun j:Nat=>cs.length - j) 0 ?_ ?_ ?_
 · simp
 · exact⟨[0,1,2,3],by simp⟩
 rintro I S μ hI hS hμ j hj
 have hlj:=usM_len (x:=x) (cs:=cs) j
 obtain⟨i,hi⟩:∃ i:Int,i=(cs.length:Int) - 1 - j:=⟨_,rfl⟩
 rw[←hi]
 by_cases hlt2:j<cs.length
 · obtain⟨p,hp⟩:∃ p,p=cs.length - 1 - j:=⟨_,rfl⟩
   obtain⟨v,hv⟩:∃ v,v=grN x - 1 - j:=⟨_,rfl⟩
   obtain⟨c,hc1⟩:∃ c,cs[p]? = some c:=⟨_,List.getElem?_eq_getElem (by omega)⟩
   have hsw:usM x cs (j+1)=if getB (usM x cs j) v=true then ctM (usM x cs j) c c.length else usM x cs j:=by
    show (if getB (usM x cs j) (grN x - 1 - j)=true then ctM (usM x cs j) ((cs[cs.length - 1 - j]?).getD []) ((cs[cs.length - 1 - j]?).getD []).length else usM x cs j)=_
    rw[←hv,←hp,hc1]
    rfl
   obtain⟨-,hc4,hcr⟩:=hcs p c hc1
   generalize usM x cs j=s at *
   have hat:=getB_at (s:=s) (v:=v) (by omega)
   have w1:IntKind.i64.wrap (1+x.1+(x.2.1.length:Int)+i)=(v:Int):=by rw[wrap_id (by omega) (by omega)];omega
   have w2:IntKind.i64.wrap (i - 1)=(cs.length:Int) - 1 - ((j:Int)+1):=by rw[wrap_id (by omega) (by omega)];omega
   have ht:i.toNat=p:=by omega
   have hL:(enRow c).length=1:=rfl
   simp[show (0:Int)≤i by omega]
   refine call_step (firstAnd_con x ⟨n1,n2⟩ n3) ?_
   simp[w1,hat]
   rcases Bool.eq_false_or_eq_true (getB s v) with hb|hb
   case inr =>
    rw[hb,if_neg (by simp)] at hsw
    simp[hb,w2]
    exact round_of hI hS hμ (j+1) (by omega) (by omega) ⟨[0,1,2,3],by simp[hsw]⟩
   rw[hb,if_pos rfl] at hsw
   simp[hb,ht,hc1,hL,enRow,show ¬ i<0 by omega]
   refine aw_loopU [false,true,true,false,false,true,false,false,true,false,false,false,false,false,false,false,false,false,false,false,false,false,false,false,false,false,false,false,false,false,false,false,false,false,false,false,false,false,false,false,false,false,false,true,true,true,false,false,false,false,false,false,false,false,false,false,false] (fun k:Nat=>k≤c.length) (fun k:Nat=>[(45,.d (.int .i64 k))]) (fun k:Nat=>[(2,.arr 4 true ((ctM s c k).map (e1 eBool)))]) (fun k:Nat=>c.length - k) 0 ?_ ?_ ?_
   · simp
   · exact⟨[0,1,2,3],by simp[ctM]⟩
   rintro I2 S2 μ2 hI2 hS2 hμ2 k hk
   have hlk:=ctM_len (s:=s) (c:=c) k
   by_cases hlt3:k<c.length
   · have hy1:c[k]? = some c[k]:=List.getElem?_eq_getElem hlt3
     have w4:IntKind.i64.wrap ((k:Int)+1)=(k:Int)+1:=wrap_id (by omega) (by omega)
     have hd2:decide (k<c.length)=true:=decide_eq_true hlt3
     have hyr:=hcr _ (List.getElem_mem hlt3)
     have hnx:ctM s c (k+1)=(ctM s c k).set (c[k]).toNat true:=by simp[ctM,atI_get hy1]
     generalize c[k]=y at *
     generalize ctM s c k=s2 at *
     obtain⟨q,rfl⟩:∃ q:Nat,y=(q:Int):=⟨y.toNat,by omega⟩
     rw[Int.toNat_natCast] at hnx
     have hat:=getB_at (s:=s2) (v:=q) (by omega)
     have hset:=map_setB (s:=s2) (v:=q) (b:=true)
     generalize s2.set q true=sq at *
     simp[hd2,hy1,hat,hset,w4]
     exact round_of hI2 hS2 hμ2 (k+1) (by omega) (by omega) ⟨[0,1,2,3],by simp[hnx]⟩
   · have hk':k=c.length:=by omega
     subst hk'
     rw[←hsw]
     simp[hlt3,w2]
     exact round_of hI hS hμ (j+1) (by omega) (by omega) ⟨[0,1,2,3],by simp⟩
 · have hj':j=cs.length:=by omega
   have hul:usedL x cs=(usM x cs j).drop (firstG x):=by rw[hj'];rfl
   rw[hul]
   generalize usM x cs j=s at *
   simp[show ¬ (0:Int)≤i by omega,show i<0 by omega]
   have hFt:(1+x.1+(x.2.1.length:Int)).toNat=firstG x:=by omega
   refine call_step (firstAnd_con x ⟨n1,n2⟩ n3) ?_
   simp[show (0:Int)≤1+x.1+(x.2.1.length:Int) by omega,hFt,show firstG x≤s.length by omega,List.take_of_length_le]
   exact⟨[0],by simp⟩
theorem ndR_no {x:GrD} {now:List RowD} {i:Nat} (h:getB (usedL x now) i=false):ndR x now i=now:=by unfold ndR;rw[if_neg (by simp[h])]
theorem ndR_yes {x:GrD} {now:List RowD} {i:Nat} (h:getB (usedL x now) i=true):ndR x now i=rowR x i now ((enumL x (firstG x+i)).length - 1):=by unfold ndR;rw[if_pos h]
theorem mapOk_rows2 {x:GrD} {cs:List RowD} (hm:mapOkB x cs=true):fitRw 1048576 cs:=by
 obtain⟨hok,hl,hcs⟩:=mapOk_of hm
 have h300:=(netOk_of hok).1.2.2.2.1
 refine⟨by omega,fun r hr=>?_⟩
 obtain⟨i,hi,rfl⟩:=List.getElem_of_mem hr
 have:=(hcs i _ (List.getElem?_eq_getElem hi)).2.1
 omega
set_option maxRecDepth 100000 in
set_option maxHeartbeats 8000000 in
theorem recoverArea_con (x:GrD) (cs:List RowD) (hx:fitGr 1048576 x) (hm:mapOkB x cs=true):ConC Try.prog 33 [igr x,irows cs] (irows (recK x cs x.2.2.1.length)):=by
 obtain⟨hok,hl,hcs⟩:=mapOk_of hm
 obtain⟨⟨n1,n2,n3,n4,n5,n6⟩,-,-,-⟩:=netOk_of hok
 obtain⟨hF,hgl,hNi,hno⟩:=ok_sizes hok
 have hN:=grN_eq x
 have kC:=copyLists_con cs (mapOk_rows2 hm)
 have h1:1≤firstG x:=by unfold firstG;omega
 have kA:=allCuts_conT x (grN x - 1) hx hok (by omega)
 have wN:IntKind.i64.wrap ((grN x:Int) - 1)=((grN x - 1:Nat):Int):=by rw[wrap_id (by omega) (by omega)];omega
 have wN2:IntKind.i64.wrap (1+x.1+(x.2.1.length:Int)+(x.2.2.1.length:Int) - 1)=((grN x - 1:Nat):Int):=by rw[wrap_id (by omega) (by omega)];omega
 have wn:IntKind.i64.wrap ((x.2.2.1.length:Int) - 1)=(x.2.2.1.length:Int) - 1:=wrap_id (by omega) (by omega)
 refine con_ofD (by kernel_rfl) Try.func33 rfl rfl rfl ?_
 simp[enGr]
 refine call_step (kC) ?_
 simp
 by_cases h0:cs=[]
 · have hn0:x.2.2.1.length=0:=by rw[←hl,h0];rfl
   have hr:recK x cs x.2.2.1.length=cs:=by rw[hn0];rfl
   rw[hr]
   subst h0
   simp
   done
 simp[h0]
 refine drawD_of 4 (by kernel_rfl) ?_
 simp[enGr]
 refine call_step (iNodeCnt_con x ⟨n1,n2⟩ n3 n4) ?_
 simp[wN2]
 refine callT_step (kA) [] [] (by simp) ?_
 simp[wn]
 refine aw_loopN [false,false,true,false,false,true,true,true,false,false,false,false,false,false,false,false,false,false,false,false,false,false,false,false,false,false,false,false,false,false,false,false,false,false,false,false,false,false,false,false,false,false,false,false,false,false,false,false,false,false,false,false,false,false,false,false,false,false,false,false,false,false,false,false,false,false,false,false,false,false] (fun j:Nat=>j≤x.2.2.1.length) (fun j:Nat=>[(5,.ref 1),(7,.d (.int .i64 ((x.2.2.1.length:Int) - 1 - j)))]) (fun j:Nat=>fun _=>[Slot.var 28 [.d (.int .i64 x.1),.d (eSl 68 enSeq x.2.1),.d (eSl 56 enAnd x.2.2.1),.d (eSl 3 (e1 eInt) x.2.2.2)],.arr 26 true ((recK x cs j).map enRow)]) (fun j:Nat=>x.2.2.1.length - j) 0 ?_ ?_ ?_
 · exact Nat.zero_le _
 · exact⟨[0,1],by simp[recK]⟩
 rintro I S μ hI hS hμ j hj
 obtain⟨z,hz⟩:∃ z:Int,z=(x.2.2.1.length:Int) - 1 - j:=⟨_,rfl⟩
 rw[←hz]
 by_cases hlt:j<x.2.2.1.length
 case neg =>
  obtain rfl:j=x.2.2.1.length:=by omega
  simp[show ¬ (0:Int)≤z by omega,show z<0 by omega]
  done
 obtain⟨i,hi⟩:∃ i,x.2.2.1.length - 1 - j=i:=⟨_,rfl⟩
 obtain rfl:z=(i:Int):=by omega
 have hnw:=recK_nw hm j hj
 have hst:recK x cs (j+1)=ndR x (recK x cs j) i:=by rw[←hi];rfl
 have hz2:(x.2.2.1.length:Int) - 1 - ((j:Int)+1)=(i:Int) - 1:=by omega
 have wz:IntKind.i64.wrap ((i:Int) - 1)=(i:Int) - 1:=wrap_id (by omega) (by omega)
 obtain⟨r2,hr2⟩:∃ r2,recK x cs (j+1)=r2:=⟨_,rfl⟩
 rw[hr2] at hst
 generalize recK x cs j=now at *
 have hmn:=hnw.1
 have hu:=iUsed2_conT x now hx (mapOk_rows2 hmn) hmn
 have hul:=usedL_len (x:=x) (cs:=now)
 have hat:=getB_at (s:=usedL x now) (v:=i) (by omega)
 have hno2:=ndR_no (x:=x) (now:=now) (i:=i)
 have hyes:=ndR_yes (x:=x) (now:=now) (i:=i)
 generalize usedL x now=u at *
 simp[show (0:Int)≤(i:Int) by omega]
 cases hb:getB u i with
 | false =>
   rw[hno2 hb] at hst
   rw[hb] at hat
   refine callT_step (hu) [] [1] (by simp) ?_
   simp[hat,wz]
   exact round_of hI hS hμ (j+1) (by omega) (by omega) ⟨[0,1],by simp[hr2,hst,hz2]⟩
 | true =>
   rw[hyes hb] at hst
   rw[hb] at hat
   have hiN:firstG x+i<grN x:=by omega
   have hrs:=fun k c=>rowR_succ (x:=x) (i:=i) (now:=now) (k:=k) (c:=c)
   have hrn:=fun k h=>rowR_nw (x:=x) (i:=i) hmn hiN k h
   have hem:=enumL_map hok (i:=i) hiN
   obtain⟨q,hq⟩:∃ q,firstG x+i=q:=⟨_,rfl⟩
   rw[hq] at hst hrs hrn hem hiN
   obtain⟨e2,e8,eM⟩:=hem
   have hall:(allG x (grN x - 1))[q]? = some (enumL x q):=by
    rw[show allG x (grN x - 1)=allC (firstG x) (kidA x) (kidB x) (grN x - 1) from rfl,allC_stay (by omega)]
    unfold enumL
    obtain⟨l,hl1⟩:=allG_at (x:=x) (k:=q) (i:=q) (Nat.le_refl _)
    rw[show allC (firstG x) (kidA x) (kidB x) q=allG x q from rfl,hl1]
    rfl
   have wf:IntKind.i64.wrap (1+x.1+(x.2.1.length:Int)+(i:Int))=(q:Int):=by rw[wrap_id (by omega) (by omega)];omega
   generalize enumL x q=L at *
   have hgd:∀ k (c:RowD),L[k]? = some c→k+1<L.length→mapAtB x c i=true:=eM
   have w3:IntKind.i64.wrap ((L.length:Int) - 1)=((L.length - 1:Nat):Int):=by rw[wrap_id (by omega) (by omega)];omega
   have hLL:(en3 L).length=1:=rfl
   have hrl:∀ r,r∈L→(enRow r).length=1:=fun _ _=>rfl
   have hrl2:∀ c,c∈L.map enRow→c.length=1:=fun c hc=>enRow_mem c hc
   obtain⟨m,hmm⟩:∃ m,L.length - 1=m:=⟨_,rfl⟩
   rw[hmm] at hst hrn w3
   have hml:m≤L.length:=by omega
   have htk:(L.map enRow).take m=(L.take m).map enRow:=List.map_take.symm
   have hLt:∀ k,k<m→(L.take m)[k]? = L[k]?:=fun k hk=>by rw[List.getElem?_take,if_pos hk]
   have hLm:(L.take m).length=m:=by rw[List.length_take];omega
   have hmin:min m L.length=m:=by omega
   refine callT_step (hu) [] [1] (by simp) ?_
   simp[hat]
   refine call_step (firstAnd_con x ⟨n1,n2⟩ n3) ?_
   simp[wf,hall,hLL,en3,e1,eSl,w3]
   rw[if_pos ⟨hml,hrl⟩,htk]
   obtain⟨Lm,hLmd⟩:∃ Lm,L.take m=Lm:=⟨_,rfl⟩
   rw[hLmd] at hLm hLt htk
   rw[hLmd]
   simp[hLm]
   refine aw_loopN [false,false,true,false,false,true,true,true,false,false,false,false,false,false,false,false,false,false,false,false,false,false,false,false,false,false,false,false,false,false,false,false,false,false,false,false,false,false,false,false,false,false,false,false,false,false,false,false,false,true,true,true,false,false,false,false,false,false,false,false,false,false,false,false,false,false,false,false,false,false] (fun k:Nat=>k≤m) (fun k:Nat=>[(5,.ref 1),(51,.d (.int .i64 k))]) (fun k:Nat=>fun _=>[Slot.var 28 [.d (.int .i64 x.1),.d (eSl 68 enSeq x.2.1),.d (eSl 56 enAnd x.2.2.1),.d (eSl 3 (e1 eInt) x.2.2.2)],.arr 26 true ((rowR x i now k).map enRow)]) (fun k:Nat=>m - k) 0 ?_ ?_ ?_
   · exact Nat.zero_le _
   · exact⟨[0,1],by simp[rowR]⟩
   rintro I1 S1 μ1 hI1 hS1 hμ1 k hk
   by_cases hlk:k<m
   case neg =>
    obtain rfl:k=m:=by omega
    rw[←hst]
    simp[decide_eq_false hlk,hlk,wz,hLm]
    exact round_of hI hS hμ (j+1) (by omega) (by omega) ⟨[0,1],by simp[hr2,hz2]⟩
   have hc1:L[k]? = some (L[k]'(by omega)):=List.getElem?_eq_getElem _
   have hst1:=hrs k _ hc1
   have hmc:=hgd k _ hc1 (by omega)
   have hc2:Lm[k]? = some (L[k]'(by omega)):=by rw[hLt k hlk];exact hc1
   generalize L[k]'(by omega)=c at *
   have hmk:=(hrn k hk).1
   obtain⟨r3,hr3⟩:∃ r3,rowR x i now (k+1)=r3:=⟨_,rfl⟩
   rw[hr3] at hst1
   generalize rowR x i now k=nk at *
   have hms:=mapOk_set hmk hmc
   have kb:=ibetter_con x (nk.set i c) nk hx (mapOk_rows2 hms) (mapOk_rows2 hmk) hms hmk
   have hLc:(enRow c).length=1:=rfl
   have hc4:c.length≤4:=((mapOk_of hms).2.2 i c (by rw[List.getElem?_set_self (by have:=(mapOk_of hmk).2.1;omega)])).2.1
   have kc:=copyInts_con c (by omega)
   have wk:IntKind.i64.wrap ((k:Int)+1)=((k+1:Nat):Int):=by rw[wrap_id (by omega) (by omega)];omega
   have dk:=decide_eq_true hlk
   have hnl:nk.length=x.2.2.1.length:=(mapOk_of hmk).2.1
   obtain⟨c0,hc0⟩:∃ c0,nk[i]? = some c0:=⟨_,List.getElem?_eq_getElem (by omega)⟩
   have hset:(nk.map enRow).set i [.sl 3 (c.map (e1 eInt))]=(nk.set i c).map enRow:=by rw[List.map_set];rfl
   have hdef:stR x i nk c=if betterB x (nk.set i c) nk=true then nk.set i c else nk:=rfl
   rw[hdef] at hst1
   generalize nk.set i c=ns at *
   cases hbb:betterB x ns nk with
   | true =>
     rw[hbb] at kb
     rw[hbb,if_pos rfl] at hst1
     simp[dk,hLm,hc2,hLc,enRow,e1,eSl]
     refine app_mov vt_el_29 (by exact rfl) (by simp) (by exact rfl) (by simp) (by first | (simp;done)|(simp;omega)) ?_
     simp
     refine call_step (kc) ?_
     simp[hc0,enRow,e1,eSl,hset]
     refine call_step (kb) ?_
     simp[wk]
     exact round_of hI1 hS1 hμ1 (k+1) (by omega) (by omega) ⟨[0,3],by simp[hr3,hst1]⟩
   | false =>
     rw[hbb] at kb
     rw[hbb,if_neg (by simp)] at hst1
     simp[dk,hLm,hc2,hLc,enRow,e1,eSl]
     refine app_view vt_el_29 (by exact rfl) (by simp) (by exact rfl) (by simp) (by simp[enRow,e1]) (by first | (simp;done)|(simp;omega)) ?_
     simp
     refine call_step (kc) ?_
     simp[hc0,enRow,e1,eSl,hset]
     refine call_step (kb) ?_
     simp[wk]
     exact round_of hI1 hS1 hμ1 (k+1) (by omega) (by omega) ⟨[0,1],by simp[hr3,hst1]⟩
end Go.Proofs.Ytakohcpfjkcfdaa
