/-
  Use and cost of a mapping, by abstract walks: both sides.
  Conditions: those typed in each theorem.
-/
import Derived.Test.YtakohcpfjkcfdaaNq
namespace Go.Proofs.Ytakohcpfjkcfdaa
open Go.RowKit Go.ChangeShapes Go.WideShapes
set_option linter.unusedVariables false
set_option linter.unusedSimpArgs false
attribute [local simp ↓] condG_true condG_false condB_true condB_false
attribute [local simp] AWp_skip AWp_region_t AWp_region_d AWp_region_f still_mk AWp_seq AWp_cond condV_bool condB AWp_block AWp_exit AWp_ret
attribute [local simp] AOps_nil AOp_move AOp_assign AOp_pick AOp_binOp AOp_unOp AOp_convert AOp_len AOp_max AOp_min AOp_indexAddr AOp_load
attribute [local simp] AOp_fieldAddr AOp_field AOp_extract AOp_nilCheck AOp_build AOp_alloc AOp_box AOp_call AOp_store AOp_append AOp_buildSlice nextB_some
attribute [local simp] nextB_none adoptO adoptC AOp_makeSlice AOp_slice AOp_makeFunc AOp_guard guardD_some guardG_bool guardG_undef nextO_some nextS_some
attribute [local simp] nextZ_some nextL_some nextM_some nextT_some sliceO sliceL sliceT partO partV boundV funcO pickO
attribute [local simp] convO lenO maxO minO idxO extO nilO buildO litO litC makeO chunks
attribute [local simp] fillV placeOf thenA inBlockA St.get St.put St.eval ofCell evalT abin_add abin_sub abin_mul
attribute [local simp] abin_quo abin_rem abin_and abin_or abin_xor abin_andNot abin_shl abin_shr abin_shlu abin_eql abin_eqp abin_neq
attribute [local simp] abin_lss abin_leq abin_gtr abin_geq abin_eqlb abin_neqb aun pickV lenV intOf? indexV takeD
attribute [local simp] takeV loadV fieldAddrV fieldV ofX presD presDs pres presAll cellsV V.cell storeV
attribute [local simp] freezeC putAt kill takeC plains plainV scalarV nat_neg keepT sets eSl e1
attribute [local simp] e2 e3 e4 eInt eBool abinS_d abinS_agg abinS nilEq abin_eqb AOp_makeMap AOp_lookup
attribute [local simp] AOp_mapUpdate lookG_some updG_some mapV kyOf vlOf lookV vlV buildA afterCall inst inst1
attribute [local simp] inst1s instD instDs RetA resVs resV gives give1 give1s Le isPin leSlots
attribute [local simp] leS leTmps leV le0 le0s ren ren0 renS ren0s frame enterT afterT_some
attribute [local simp] afterC_some lives Slot.live arrsOk viewV view0 renT rens renSs setAll List.range'_succ RetT
attribute [local simp] RetW joinV leT AOpsE_nil AOpsE_cons AOpsT_nil AOpsT_cons isCallT isFnO callOf callVC_fn condC_true
attribute [local simp] condC_false beginT_mk thenT_mk pickE pickT isT loose namesOf namesV names1 names0 stableN
attribute [local simp] sameAt Op.operands Call.operands
attribute [local simp] mcone_len esc_len
theorem rootsN_in {x:GrD} (hok:netOkB x=true):∀ y∈grRoots x,0≤y∧y<2*(grN x:Int):=(netOk_of hok).2.2.1
theorem rootsN_len {x:GrD} (hok:netOkB x=true):(grRoots x).length≤64:=by
 obtain⟨⟨n1,n2,n3,n4,n5,n6⟩,o1,-,-⟩:=netOk_of hok
 have h1:=grK_len (x:=x) (k:=x.2.1.length) (M:=4) (fun s hs=>seqOk_len (o1 s hs))
 rw[grK_all] at h1
 omega
set_option maxRecDepth 100000 in
set_option maxHeartbeats 1000000 in
theorem iUsed_con (x:GrD) (cs:List RowD) (hx:fitGr 1048576 x) (hc:fitRw 1048576 cs) (hm:mapOkB x cs=true):ConT Try.prog 57 [vgr x,.d (erows cs)] [] (.d (eSl 4 (e1 eBool) (usedL x cs))) []:=by
 obtain⟨hok,hl,hcs⟩:=mapOk_of hm
 obtain⟨⟨n1,n2,n3,n4,n5,n6⟩,-,-,-⟩:=netOk_of hok
 obtain⟨hF,hgl,hNi,hno⟩:=ok_sizes hok
 have hN:=grN_eq x
 have hNt:(1+x.1+(x.2.1.length:Int)+(x.2.2.1.length:Int)).toNat=grN x:=by omega
 have hrl:=rootsN_len hok
 have hri:=rootsN_in hok
 have hu0:usM x cs 0=rtM (List.replicate (grN x) false) (grRoots x) (grRoots x).length:=rfl
 have hlr:∀ k,(rtM (List.replicate (grN x) false) (grRoots x) k).length=grN x:=fun k=>by rw[rtM_len];simp
 refine conT_of (by kernel_rfl) Try.func57 rfl rfl rfl (by simp[laters,Later]) (by simp[lives,Slot.live]) ?_
 simp[enGr]
 refine call_step (iNodeCnt_con x ⟨n1,n2⟩ n3 n4) ?_
 simp
 refine⟨by omega,?_⟩
 rw[hNt]
 refine call_step (iRoots_con x hx n3) ?_
 simp
 generalize grRoots x=rs at *
 have hr0:(rtM (List.replicate (grN x) false) rs 0).map (e1 eBool)=List.replicate (grN x) [D.bool false]:=by rw[rep_bools];rfl
 generalize List.replicate (grN x) false=s0 at *
 refine aw_loopU [false,true,true,false,false,true,false,false,false,false,false,false,false,false,false,true,true,true,false,false,false,false,false,false,false,false,false,false,false,false,false,false,false,false,false,false,false,false,false,false,false,false,false,false,false,false,false,false,false,false,false,false,false,false,false,false,false] (fun k:Nat=>k≤rs.length) (fun k:Nat=>[(17,.d (.int .i64 k))]) (fun k:Nat=>[(1,.arr 4 true ((rtM s0 rs k).map (e1 eBool)))]) (fun k:Nat=>rs.length - k) 0 ?_ ?_ ?_
 · simp
 · exact⟨[0,1,2],by simp[hr0]⟩
 rintro I S μ hI hS hμ k hk
 have hlk:=hlr k
 by_cases hlt:k<rs.length
 · have hx1:rs[k]? = some rs[k]:=List.getElem?_eq_getElem hlt
   have w2:IntKind.i64.wrap ((k:Int)+1)=(k:Int)+1:=wrap_id (by omega) (by omega)
   have hd:decide (k<rs.length)=true:=decide_eq_true hlt
   have hyr:=hri _ (List.getElem_mem hlt)
   have hnx:rtM s0 rs (k+1)=(rtM s0 rs k).set (rs[k] / 2).toNat true:=by simp[rtM,atI_get hx1]
   generalize rs[k]=y at *
   generalize rtM s0 rs k=s at *
   obtain⟨q,hq⟩:∃ q:Nat,(q:Int)=y / 2:=⟨(y / 2).toNat,by omega⟩
   rw[←hq,Int.toNat_natCast] at hnx
   have q1:IntKind.i64.wrap (y.tdiv 2)=(q:Int):=by rw[Int.tdiv_eq_ediv_of_nonneg hyr.1,←hq];exact wrap_id (by omega) (by omega)
   have hat:=getB_at (s:=s) (v:=q) (by omega)
   have hset:=map_setB (s:=s) (v:=q) (b:=true)
   generalize s.set q true=sq at *
   simp[hd,hx1,q1,hat,hset,w2]
   exact round_of hI hS hμ (k+1) (by omega) (by omega) ⟨[0,1,2],by simp[hnx]⟩
 have hk':k=rs.length:=by omega
 subst hk'
 rw[←hu0]
 have w0:IntKind.i64.wrap ((cs.length:Int) - 1)=(cs.length:Int) - 1:=wrap_id (by omega) (by omega)
 clear hI hS hμ
 simp[hlt,w0]
 refine aw_loopU [false,true,true,false,false,true,false,false,true,false,false,false,false,false,false,false,false,false,false,false,false,false,false,false,false,false,false,false,false,false,false,false,false,false,false,false,false,false,false,false,false,false,false,false,false,false,false,false,false,false,false,false,false,false,false,false,false] (fun j:Nat=>j≤cs.length) (fun j:Nat=>[(8,.d (.int .i64 ((cs.length:Int) - 1 - j)))]) (fun j:Nat=>[(1,.arr 4 true ((usM x cs j).map (e1 eBool)))]) (fun j:Nat=>cs.length - j) 0 ?_ ?_ ?_
 · simp
 · exact⟨[0,1,2],by simp⟩
 rintro I S μ hI hS hμ j hj
 have hlj:=usM_len (x:=x) (cs:=cs) j
 obtain⟨i,hi⟩:∃ i:Int,i=(cs.length:Int) - 1 - j:=⟨_,rfl⟩
 rw[←hi]
 by_cases hlt2:j<cs.length
 · obtain⟨p,hp⟩:∃ p,p=cs.length - 1 - j:=⟨_,rfl⟩
   obtain⟨v,hv⟩:∃ v,v=grN x - 1 - j:=⟨_,rfl⟩
   obtain⟨c,hc1⟩:∃ c,cs[p]? = some c:=⟨_,List.getElem?_eq_getElem (by omega)⟩
   have hsw:usM x cs (j+1)=if getB (usM x cs j) v=true then ctM (usM x cs j) c c.length else usM x cs j:=by
    show (if getB (usM x cs j) (grN x - 1 - j)=true then ctM (usM x cs j) ((cs[cs.length - 1 - j]?).getD []) ((cs[cs.length - 1 - j]?).getD []).length else usM x cs j)=_
    rw[←hv,←hp,hc1]
    rfl
   obtain⟨-,hc4,hcr⟩:=hcs p c hc1
   generalize usM x cs j=s at *
   have hat:=getB_at (s:=s) (v:=v) (by omega)
   have w1:IntKind.i64.wrap (1+x.1+(x.2.1.length:Int)+i)=(v:Int):=by rw[wrap_id (by omega) (by omega)];omega
   have w2:IntKind.i64.wrap (i - 1)=(cs.length:Int) - 1 - ((j:Int)+1):=by rw[wrap_id (by omega) (by omega)];omega
   have ht:i.toNat=p:=by omega
   have hL:(enRow c).length=1:=rfl
   simp[show (0:Int)≤i by omega]
   refine call_step (firstAnd_con x ⟨n1,n2⟩ n3) ?_
   simp[w1,hat]
   rcases Bool.eq_false_or_eq_true (getB s v) with hb|hb
   case inr =>
    rw[hb,if_neg (by simp)] at hsw
    simp[hb,w2]
    exact round_of hI hS hμ (j+1) (by omega) (by omega) ⟨[0,1,2],by simp[hsw]⟩
   rw[hb,if_pos rfl] at hsw
   simp[hb,ht,hc1,hL,enRow,show ¬ i<0 by omega]
   refine aw_loopU [false,true,true,false,false,true,false,false,true,false,false,false,false,false,false,false,false,false,false,false,false,false,false,false,false,false,false,false,false,false,false,false,false,false,false,false,false,false,false,false,false,false,false,true,true,true,false,false,false,false,false,false,false,false,false,false,false] (fun k:Nat=>k≤c.length) (fun k:Nat=>[(45,.d (.int .i64 k))]) (fun k:Nat=>[(1,.arr 4 true ((ctM s c k).map (e1 eBool)))]) (fun k:Nat=>c.length - k) 0 ?_ ?_ ?_
   · simp
   · exact⟨[0,1,2],by simp[ctM]⟩
   rintro I2 S2 μ2 hI2 hS2 hμ2 k hk
   have hlk:=ctM_len (s:=s) (c:=c) k
   by_cases hlt3:k<c.length
   · have hy1:c[k]? = some c[k]:=List.getElem?_eq_getElem hlt3
     have w4:IntKind.i64.wrap ((k:Int)+1)=(k:Int)+1:=wrap_id (by omega) (by omega)
     have hd2:decide (k<c.length)=true:=decide_eq_true hlt3
     have hyr:=hcr _ (List.getElem_mem hlt3)
     have hnx:ctM s c (k+1)=(ctM s c k).set (c[k]).toNat true:=by simp[ctM,atI_get hy1]
     generalize c[k]=y at *
     generalize ctM s c k=s2 at *
     obtain⟨q,rfl⟩:∃ q:Nat,y=(q:Int):=⟨y.toNat,by omega⟩
     rw[Int.toNat_natCast] at hnx
     have hat:=getB_at (s:=s2) (v:=q) (by omega)
     have hset:=map_setB (s:=s2) (v:=q) (b:=true)
     generalize s2.set q true=sq at *
     simp[hd2,hy1,hat,hset,w4]
     exact round_of hI2 hS2 hμ2 (k+1) (by omega) (by omega) ⟨[0,1,2],by simp[hnx]⟩
   · have hk':k=c.length:=by omega
     subst hk'
     rw[←hsw]
     simp[hlt3,w2]
     exact round_of hI hS hμ (j+1) (by omega) (by omega) ⟨[0,1,2],by simp⟩
 · have hj':j=cs.length:=by omega
   have hul:usedL x cs=(usM x cs j).drop (firstG x):=by rw[hj'];rfl
   rw[hul]
   generalize usM x cs j=s at *
   simp[show ¬ (0:Int)≤i by omega,show i<0 by omega]
   have hFt:(1+x.1+(x.2.1.length:Int)).toNat=firstG x:=by omega
   refine call_step (firstAnd_con x ⟨n1,n2⟩ n3) ?_
   simp[show (0:Int)≤1+x.1+(x.2.1.length:Int) by omega,hFt,show firstG x≤s.length by omega,List.take_of_length_le]
   exact⟨[],by simp⟩
theorem cut_below {x:GrD} {cs:List RowD} (hm:mapOkB x cs=true) {p:Nat} {c:RowD} (hc:cs[p]? = some c):∀ y∈c,0≤y∧y<((firstG x+p:Nat):Int):=fun y hy=>by
 obtain⟨hok,hl,hcs⟩:=mapOk_of hm
 obtain⟨hat,-,hin⟩:=hcs p c hc
 have hp:p<cs.length:=(List.getElem?_eq_some_iff.1 hc).1
 have hN:=grN_eq x
 have hv:firstG x+p<grN x:=by omega
 obtain⟨y0,y1⟩:=hin y hy
 simp only[mapAtB,cutOkB,Bool.and_eq_true,decide_eq_true_eq,Bool.not_eq_true',hasB,decide_eq_false_iff_not] at hat
 obtain⟨h1,⟨⟨-,h2⟩,h3⟩,-⟩:=hat
 have hb:=List.all_eq_true.1 h3 y hy
 obtain⟨u,rfl⟩:∃ u:Nat,y=u:=⟨y.toNat,by omega⟩
 rw[marks_has] at hb
 have hr:=(cone_iff hok hv u).1 hb
 have hle:=Rch.le (kids_lt hok) hr hv
 have hne:u≠firstG x+p:=fun e=>h1 (by rw[←e];exact hy)
 omega
end Go.Proofs.Ytakohcpfjkcfdaa
