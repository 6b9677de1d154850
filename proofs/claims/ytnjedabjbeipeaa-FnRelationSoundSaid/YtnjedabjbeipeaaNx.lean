/-
  States, values and cycles of a graph, by abstract walks.
  Conditions: those typed in each theorem.
-/
import Derived.Test.YtnjedabjbeipeaaNw
namespace Go.Proofs.Ytnjedabjbeipeaa
open Go.RowKit Go.ChangeShapes Go.WideShapes
set_option linter.unusedVariables false
set_option linter.unusedSimpArgs false
attribute [local simp ↓] condG_true condG_false condB_true condB_false
attribute [local simp] AWp_skip AWp_region_t AWp_region_d AWp_region_f still_mk AWp_seq AWp_cond condV_bool condB AWp_block AWp_exit AWp_ret
attribute [local simp] AOps_nil AOp_move AOp_assign AOp_pick AOp_binOp AOp_unOp AOp_convert AOp_len AOp_max AOp_min AOp_indexAddr AOp_load
attribute [local simp] AOp_fieldAddr AOp_field AOp_extract AOp_nilCheck AOp_build AOp_alloc AOp_box AOp_call AOp_store AOp_append AOp_buildSlice nextB_some
attribute [local simp] nextB_none adoptO adoptC AOp_makeSlice AOp_slice AOp_makeFunc AOp_guard guardD_some guardG_bool guardG_undef nextO_some nextS_some
attribute [local simp] nextZ_some nextL_some nextM_some nextT_some sliceO sliceL sliceT partO partV boundV funcO pickO
attribute [local simp] convO lenO maxO minO idxO extO nilO buildO litO litC makeO chunks
attribute [local simp] fillV placeOf thenA inBlockA St.get St.put St.eval ofCell evalT abin_add abin_sub abin_mul
attribute [local simp] abin_quo abin_rem abin_and abin_or abin_xor abin_andNot abin_shl abin_shr abin_shlu abin_eql abin_eqp abin_neq
attribute [local simp] abin_lss abin_leq abin_gtr abin_geq abin_eqlb abin_neqb aun pickV lenV intOf? indexV takeD
attribute [local simp] takeV loadV fieldAddrV fieldV ofX presD presDs pres presAll cellsV V.cell storeV
attribute [local simp] freezeC putAt kill takeC plains plainV scalarV nat_neg keepT sets eSl e1
attribute [local simp] e2 e3 e4 eInt eBool abinS_d abinS_agg abinS nilEq abin_eqb AOp_makeMap AOp_lookup
attribute [local simp] AOp_mapUpdate lookG_some updG_some mapV kyOf vlOf lookV vlV buildA afterCall inst inst1
attribute [local simp] inst1s instD instDs RetA resVs resV gives give1 give1s Le isPin leSlots
attribute [local simp] leS leTmps leV le0 le0s ren ren0 renS ren0s frame enterT afterT_some
attribute [local simp] afterC_some lives Slot.live arrsOk viewV view0 renT rens renSs setAll List.range'_succ RetT
attribute [local simp] RetW joinV leT AOpsE_nil AOpsE_cons AOpsT_nil AOpsT_cons isCallT isFnO callOf callVC_fn condC_true
attribute [local simp] condC_false beginT_mk beginX_mk AOpsX_zero thenT_mk pickE pickT isT loose namesOf namesV names1
attribute [local simp] names0 stableN sameAt Op.operands Call.operands
def stOkGB (x:GrD) (st:List Int):Bool:=netOkB x&&decide (st.length=x.2.1.length)&&(st.zip x.2.1).all fun p=>rng p.1 0 (seqMostL p.2.1)
theorem sStateOkG_con (x:GrD) (st:List Int) (hx:fitGr 1048576 x) (hg:okGr x) (hs:st.length≤1048576):ConC Try.prog 53 [igr x,ints st] (.d (.bool (stOkGB x st))):=by
 refine con_of (by kernel_rfl) Try.func53 rfl rfl rfl ?_
 simp[enGr]
 refine call_step (sNetOk_con x hx hg) ?_
 simp
 rcases Bool.eq_false_or_eq_true (netOkB x) with hok|hok
 case inr=>simp[hok,stOkGB]
 by_cases hl:st.length=x.2.1.length
 case neg =>
  have hl':((st.length:Int) != x.2.1.length)=true:=by simp;omega
  have hl2:¬ (st.length:Int)=x.2.1.length:=by omega
  simp[hok,hl',hl2,stOkGB,hl]
 have hx2l:=hx.1
 simp[hok,hl]
 refine aw_loopU [false,true,true,false,false,true,false,false,false,false,false,false,false,false,false,false,false,false,false,false,false,false,false,false,false,false,false,false,false,false,false,false,false,false,false] (fun k:Nat=>k≤st.length∧((st.zip x.2.1).take k).all (fun p=>rng p.1 0 (seqMostL p.2.1))=true) (fun k:Nat=>[(5,.d (.int .i64 k))]) (fun k:Nat=>[]) (fun k:Nat=>st.length - k) 0 ?_ ?_ ?_
 · simp
 · exact⟨[0],by simp⟩
 rintro I S μ hI hS hμ k ⟨hk,ha⟩
 by_cases hlt:k<st.length
 · have hx1:st[k]? = some st[k]:=List.getElem?_eq_getElem hlt
   have hx2:x.2.1[k]? = some (x.2.1[k]'(by omega)):=List.getElem?_eq_getElem _
   have hL:(enSeq (x.2.1[k]'(by omega))).length=3:=rfl
   have w2:IntKind.i64.wrap ((k:Int)+1)=(k:Int)+1:=wrap_id (by omega) (by omega)
   have hz:(st.zip x.2.1)[k]? = some (st[k],x.2.1[k]'(by omega)):=by simp[List.getElem?_zip_eq_some]
   generalize st[k]=v at *
   generalize x.2.1[k]'(by omega)=s at *
   have hd:decide (k<x.2.1.length)=true:=decide_eq_true (by omega)
   have hd1:decide (k<st.length)=true:=decide_eq_true (by omega)
   have hn:=seqNext_neg (k:=s.1) (v:=v) (i:=0)
   simp[hd,hd1,hx1,hx2,hL,enSeq]
   refine⟨by kernel_rfl,?_⟩
   refine call_step (sSeqNext_con _ _ _) ?_
   simp
   rcases Bool.eq_false_or_eq_true (rng v 0 (seqMostL s.1)) with hr|hr
   · have hn':decide (seqNextL s.1 v 0<0)=false:=by rw[decide_eq_false_iff_not,hn,hr];simp
     have hn2:0≤seqNextL s.1 v 0:=by simpa using hn'
     have hn3:(seqNextL s.1 v 0<0)=False:=eq_false (by omega)
     simp[hn',hn2,hn3,w2]
     exact round_of hI hS hμ (k+1) ⟨by omega,by rw[all_snoc' hz,ha];simp[hr]⟩ (by omega) ⟨[0],by simp⟩
   · have hn':seqNextL s.1 v 0<0:=by rw[hn,hr]
     have hn3:(0≤seqNextL s.1 v 0)=False:=eq_false (by omega)
     simp[hn',hn3,stOkGB,all_not' (p:=fun p:Int×SeqD=>rng p.1 0 (seqMostL p.2.1)) hz hr,show ¬ 0≤seqNextL s.1 v 0 by omega]
 · have hk':k=st.length:=by omega
   subst hk'
   rw[List.take_of_length_le (by rw[List.length_zip];omega)] at ha
   simp[hlt,stOkGB,ha,hok,hl,show ¬ st.length<x.2.1.length by omega]
set_option maxRecDepth 100000 in
set_option maxHeartbeats 1000000 in
theorem sNodeValues_con (x:GrD) (st:List Int) (inp:Int) (hx:fitGr 1048576 x) (hg:okGr x) (hso:stOkGB x st=true):ConC Try.prog 54 [igr x,ints st,.d (.int .i64 inp)] (ints (valsL x st inp)):=by
 have hso':=hso
 simp only[stOkGB,Bool.and_eq_true,decide_eq_true_eq] at hso'
 obtain⟨⟨hok,hs⟩,-⟩:=hso'
 obtain⟨⟨n1,n2,n3,n4,n5,n6⟩,-,-,o3⟩:=netOk_of hok
 have hN:grN x=1+x.1.toNat+x.2.1.length+x.2.2.1.length:=rfl
 have hNi:(nodesG x).toNat=grN x:=by omega
 refine con_of (by kernel_rfl) Try.func54 rfl rfl rfl ?_
 simp[enGr]
 refine call_step (sStateOkG_con x st hx hg (by omega)) ?_
 simp[hso]
 refine call_step (sNodeCount_con x) ?_
 simp
 refine⟨⟨by omega,by omega⟩,?_⟩
 rw[hNi]
 refine aw_loopU [false,true,true,true,false,false,false,true,true,false,false,false,false,false,false,false,false,false,false,false,false,false,false,false,false,false,false,false,false,false,false,false,false,false,false,false,false,false,false,false,false,false,false,false,false,false,false,false,false,false,false,false,false,false,false,false,false,false,false,false,false,false,false,false,false,false,false,false,false,false,false,false,false,false,false,false,false,false,false,false,false,false] (fun k:Nat=>k≤x.1.toNat) (fun k:Nat=>[(8,.d (.int .i64 k))]) (fun k:Nat=>[(1,.arr 3 true ((inK (grN x) inp k).map (e1 eInt)))]) (fun k:Nat=>x.1.toNat - k) 0 ?_ ?_ ?_
 · simp
 · exact⟨[0,1],by simp[inK]⟩
 · rintro I S μ hI hS hμ k hk
   obtain⟨lv,hlv⟩:∃ lv,lv=inK (grN x) inp k:=⟨_,rfl⟩
   have hlen:lv.length=grN x:=by rw[hlv,inK_len]
   have hnext:inK (grN x) inp (k+1)=lv.set (1+k) (bit inp k):=by rw[hlv];rfl
   rw[←hlv]
   by_cases hlt:k<x.1.toNat
   · have w2:IntKind.i64.wrap ((k:Int)+1)=(k:Int)+1:=wrap_id (by omega) (by omega)
     have w3:IntKind.i64.wrap (1+(k:Int))=1+(k:Int):=wrap_id (by omega) (by omega)
     have ht:(1+(k:Int)).toNat=1+k:=by omega
     have hr:lv[1+k]? = some (atI lv (1+k)):=by rw[←ht];exact at_read (by omega)
     simp[show (k:Int)<x.1 by omega,w3,and_shr,ht,hr,show ¬ 1+(k:Int)<0 by omega,w2]
     exact round_of hI hS hμ (k+1) (by omega) (by omega) ⟨[0,1],by simp[hnext,←setI]⟩
   · have hk':k=x.1.toNat:=by omega
     have hv:lv=inV x inp:=by rw[hlv,hk'];rfl
     clear hlv hnext hI hS hμ
     have hb0:bitsI lv:=by rw[hv];exact inV_bits
     simp[show ¬ ((k:Int)<x.1) by omega]
     refine aw_loopU [false,true,false,true,false,false,false,true,false,true,false,false,false,false,false,false,false,false,false,false,false,false,false,false,false,false,false,false,false,false,false,false,false,false,false,false,false,false,false,false,false,false,false,false,false,false,false,false,false,false,false,false,false,false,false,false,false,false,false,false,false,false,false,false,false,false,false,false,false,false,false,false,false,false,false,false,false,false,false,false,false,false] (fun k:Nat=>k≤st.length) (fun k:Nat=>[(9,.d (.int .i64 k))]) (fun k:Nat=>[(1,.arr 3 true ((stK lv (1+x.1.toNat) st k).map (e1 eInt)))]) (fun k:Nat=>st.length - k) 0 ?_ ?_ ?_
     · simp
     · exact⟨[0,1],by simp[stK]⟩
     rintro I S μ hI hS hμ k hk
     obtain⟨lw,hlw⟩:∃ lw,lw=stK lv (1+x.1.toNat) st k:=⟨_,rfl⟩
     have hlen2:lw.length=grN x:=by rw[hlw,stK_len,hlen]
     by_cases hlt:k<st.length
     · have hx1:st[k]? = some st[k]:=List.getElem?_eq_getElem hlt
       have hnext:stK lv (1+x.1.toNat) st (k+1)=lw.set (1+x.1.toNat+k) (st[k] % 2):=by rw[hlw];simp[stK,hx1]
       rw[←hlw]
       generalize st[k]=v at *
       have w2:IntKind.i64.wrap ((k:Int)+1)=(k:Int)+1:=wrap_id (by omega) (by omega)
       have w3:IntKind.i64.wrap (1+x.1+(k:Int))=1+x.1+(k:Int):=wrap_id (by omega) (by omega)
       have w4:IntKind.i64.wrap (1+x.1)=1+x.1:=wrap_id (by omega) (by omega)
       have ht:(1+x.1+(k:Int)).toNat=1+x.1.toNat+k:=by omega
       have hr:lw[1+x.1.toNat+k]? = some (atI lw (1+x.1+k)):=by rw[←ht];exact at_read (by omega)
       have hd:decide (k<st.length)=true:=decide_eq_true hlt
       simp[hd,hx1,w4,w3,and64_one,ht,hr,show ¬ 1+x.1+(k:Int)<0 by omega,w2]
       exact⟨by kernel_rfl,round_of hI hS hμ (k+1) (by omega) (by omega) ⟨[0,1],by simp[hnext,←setI]⟩⟩
     · have hk':k=st.length:=by omega
       subst hk'
       have hv2:lw=stV x st inp:=by rw[hlw,hv];rfl
       rw[←hlw]
       clear hlw hI hS hμ
       have hb1:bitsI lw:=by rw[hv2];exact stV_bits
       simp[hlt]
       refine aw_loopU [false,false,false,true,false,false,false,true,false,false,true,false,false,false,false,false,false,false,false,false,false,false,false,false,false,false,false,false,false,false,false,false,false,false,false,false,false,false,false,false,false,false,false,false,false,false,false,false,false,false,false,false,false,false,false,false,false,false,false,false,false,false,false,false,false,false,false,false,false,false,false,false,false,false,false,false,false,false,false,false,false,false] (fun k:Nat=>k≤x.2.2.1.length) (fun k:Nat=>[(10,.d (.int .i64 k))]) (fun k:Nat=>[(1,.arr 3 true ((anK lw (1+x.1.toNat+x.2.1.length) x.2.2.1 k).map (e1 eInt)))]) (fun k:Nat=>x.2.2.1.length - k) 0 ?_ ?_ ?_
       · simp
       · exact⟨[0,1],by simp[anK]⟩
       rintro I S μ hI hS hμ k hk
       obtain⟨lu,hlu⟩:∃ lu,lu=anK lw (1+x.1.toNat+x.2.1.length) x.2.2.1 k:=⟨_,rfl⟩
       have hlen3:lu.length=grN x:=by rw[hlu,anK_len,hlen2]
       have hb2:bitsI lu:=by rw[hlu];exact anK_bits hb1 k
       by_cases hlt:k<x.2.2.1.length
       · have hx1:x.2.2.1[k]? = some x.2.2.1[k]:=List.getElem?_eq_getElem hlt
         have hL:(enAnd x.2.2.1[k]).length=2:=rfl
         have hnext:anK lw (1+x.1.toNat+x.2.1.length) x.2.2.1 (k+1)=lu.set (1+x.1.toNat+x.2.1.length+k) (litL lu x.2.2.1[k].1*litL lu x.2.2.1[k].2):=by rw[hlu];simp[anK,hx1]
         have ho:=o3 k _ hx1
         rw[←hlu]
         generalize x.2.2.1[k]=s at *
         have w2:IntKind.i64.wrap ((k:Int)+1)=(k:Int)+1:=wrap_id (by omega) (by omega)
         have w3:IntKind.i64.wrap (1+x.1+(x.2.1.length:Int)+(k:Int))=1+x.1+(x.2.1.length:Int)+(k:Int):=wrap_id (by omega) (by omega)
         have ht:(1+x.1+(x.2.1.length:Int)+(k:Int)).toNat=1+x.1.toNat+x.2.1.length+k:=by omega
         have hr:lu[1+x.1.toNat+x.2.1.length+k]? = some (atI lu (1+x.1+x.2.1.length+k)):=by rw[←ht];exact at_read (by omega)
         have hm:and64 (litL lu s.1) (litL lu s.2)=litL lu s.1*litL lu s.2:=and64_bit (litL_01 _ _) (litL_01 _ _)
         have hd:decide (k<x.2.2.1.length)=true:=decide_eq_true hlt
         simp[hd,hx1,hL,enAnd]
         refine⟨by kernel_rfl,?_⟩
         refine call_step (sFirst_con x ⟨n1,n2⟩ n3) ?_
         simp[w3,hx1,hL,enAnd]
         refine call_step (l09Bit_con lu s.1 hb2 (by omega) (by omega)) ?_
         simp[hx1,hL,enAnd]
         refine call_step (l09Bit_con lu s.2 hb2 (by omega) (by omega)) ?_
         simp[hm,ht,hr,show ¬ 1+x.1+(x.2.1.length:Int)+(k:Int)<0 by omega,w2]
         exact round_of hI hS hμ (k+1) (by omega) (by omega) ⟨[0,1],by simp[hnext,←setI]⟩
       · have hk':k=x.2.2.1.length:=by omega
         subst hk'
         have hv3:lu=valsL x st inp:=by rw[hlu,hv2];rfl
         rw[←hlu]
         simp[hlt,hv3]
end Go.Proofs.Ytnjedabjbeipeaa
