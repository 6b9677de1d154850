/-
  Relations of states: the reference, by an abstract walk.
  Conditions: those typed in each theorem.
-/
import Derived.Test.YtnjedabjbeipeaaNz
namespace Go.Proofs.Ytnjedabjbeipeaa
open Go.RowKit Go.ChangeShapes Go.WideShapes
set_option linter.unusedVariables false
set_option linter.unusedSimpArgs false
attribute [local simp ↓] condG_true condG_false condB_true condB_false
attribute [local simp] AWp_skip AWp_region_t AWp_region_d AWp_region_f still_mk AWp_seq AWp_cond condV_bool condB AWp_block AWp_exit AWp_ret
attribute [local simp] AOps_nil AOp_move AOp_assign AOp_pick AOp_binOp AOp_unOp AOp_convert AOp_len AOp_max AOp_min AOp_indexAddr AOp_load
attribute [local simp] AOp_fieldAddr AOp_field AOp_extract AOp_nilCheck AOp_build AOp_alloc AOp_box AOp_call AOp_store AOp_append AOp_buildSlice nextB_some
attribute [local simp] nextB_none adoptO adoptC AOp_makeSlice AOp_slice AOp_makeFunc AOp_guard guardD_some guardG_bool guardG_undef nextO_some nextS_some
attribute [local simp] nextZ_some nextL_some nextM_some nextT_some sliceO sliceL sliceT partO partV boundV funcO pickO
attribute [local simp] convO lenO maxO minO idxO extO nilO buildO litO litC makeO chunks
attribute [local simp] fillV placeOf thenA inBlockA St.get St.put St.eval ofCell evalT abin_add abin_sub abin_mul
attribute [local simp] abin_quo abin_rem abin_and abin_or abin_xor abin_andNot abin_shl abin_shr abin_shlu abin_eql abin_eqp abin_neq
attribute [local simp] abin_lss abin_leq abin_gtr abin_geq abin_eqlb abin_neqb aun pickV lenV intOf? indexV takeD
attribute [local simp] takeV loadV fieldAddrV fieldV ofX presD presDs pres presAll cellsV V.cell storeV
attribute [local simp] freezeC putAt kill takeC plains plainV scalarV nat_neg keepT sets eSl e1
attribute [local simp] e2 e3 e4 eInt eBool abinS_d abinS_agg abinS nilEq abin_eqb AOp_makeMap AOp_lookup
attribute [local simp] AOp_mapUpdate lookG_some updG_some mapV kyOf vlOf lookV vlV buildA afterCall inst inst1
attribute [local simp] inst1s instD instDs RetA resVs resV gives give1 give1s Le isPin leSlots
attribute [local simp] leS leTmps leV le0 le0s ren ren0 renS ren0s frame enterT afterT_some
attribute [local simp] afterC_some lives Slot.live arrsOk viewV view0 renT rens renSs setAll List.range'_succ RetT
attribute [local simp] RetW joinV leT AOpsE_nil AOpsE_cons AOpsT_nil AOpsT_cons isCallT isFnO callOf callVC_fn condC_true
attribute [local simp] condC_false beginT_mk beginX_mk AOpsX_zero thenT_mk pickE pickT isT loose namesOf namesV names1
attribute [local simp] names0 stableN sameAt Op.operands Call.operands
set_option maxRecDepth 100000 in
set_option maxHeartbeats 1000000 in
theorem sRel_con (a b:GrD) (ls:List LinkD) (ha:fitGr 1048576 a) (hb:fitGr 1048576 b) (hl:fitLk 1048576 ls) (ga:okGr a) (gb:okGr b):ConC Try.prog 15 [igr a,igr b,ilk ls] (.d (.bool (relB a b ls))):=by
 refine con_of (by kernel_rfl) Try.func15 rfl rfl rfl ?_
 simp[enGr]
 refine⟨by kernel_rfl,?_⟩
 refine call_step (sLinksOk_con a b ls ha hb hl ga gb) ?_
 simp
 rcases Bool.eq_false_or_eq_true (linksOkB a b ls) with h1|h1
 case inr=>simp[h1,relB]
 obtain⟨oa,ob,fa,fb,ll,lin⟩:=linksOk_of h1
 obtain⟨⟨n1,n2,n3,n4,n5,n6⟩,-,-,-⟩:=netOk_of oa
 have w1:IntKind.i64.wrap (a.1+(a.2.1.length:Int))=a.1+(a.2.1.length:Int):=wrap_id (by omega) (by omega)
 by_cases h2:a.1+(a.2.1.length:Int)≤10
 case neg=>simp[h1,w1,show (10:Int)<a.1+(a.2.1.length:Int) by omega,relB,h2]
 have hsh:=relN_shl n1 h2
 have hM:=relN_le n1 h2
 have lb:=hb.1
 simp[h1,w1,show ¬ (10:Int)<a.1+(a.2.1.length:Int) by omega]
 refine call_step (sNetStart_con a ha ga oa) ?_
 simp
 refine call_step (l25State_con ls (startL a) hl.1 (by rw[start_len];omega) (start_bits oa fa) (lin _ start_len)) ?_
 simp
 refine call_step (sNetStart_con b hb gb ob) ?_
 simp
 refine call_step (l16Same_con (lkL ls (startL a)) (startL b) (by rw[lk_len];omega) (by rw[lk_len,start_len];omega)) ?_
 simp
 rcases Bool.eq_false_or_eq_true (sameB (lkL ls (startL a)) (startL b)) with h3|h3
 case inr=>simp[h3,relB]
 have hB:relB a b ls=relAll a b ls:=by simp[relB,h1,h2,h3]
 rw[hB]
 simp[h3]
 refine aw_loopN [false,false,true,true,true,false,false,true,false,false,false,false,false,false,false,false,false,false,false,false,false,false,false,false,false,false,false,false,false,false,false,false,false,false,false,false,false,false,false,false,false,false,false,false,false,false,false,false,false,false,false,false,false,false,false,false,false,false,false,false,false,false,false,false,false,false,false,false,false,false,false,false,false,false,false,false,false,false,false,false,false,false,false,false,false,false,false,false,false,false,false,false,false,false] (fun k:Nat=>k≤relN a∧∀ j:Nat,j<k→relAtB a b ls j=true) (fun k:Nat=>[(7,.d (.int .i64 k))]) (fun k:Nat=>fun sl=>sl.take 2) (fun k:Nat=>relN a - k) 0 ?_ ?_ ?_
 · exact⟨by omega,fun j hj=>absurd hj (by omega)⟩
 · exact⟨[0,1],by simp⟩
 rintro I S μ hI hS hμ k ⟨hk,hall⟩
 by_cases hlt:k<relN a
 · have w2:IntKind.i64.wrap ((k:Int)+1)=(k:Int)+1:=wrap_id (by omega) (by omega)
   simp[w1,show 0≤a.1+(a.2.1.length:Int) by omega,hsh,hlt]
   have hts:stX a k=(stX a k).take a.2.1.length:=by rw[List.take_of_length_le (by rw[stX_len];omega)]
   refine aw_loopU [false,false,true,true,true,false,false,true,true,true,false,false,false,false,false,false,false,false,false,false,false,false,false,false,false,false,false,false,false,false,false,false,false,false,false,false,false,false,false,false,false,false,false,false,false,false,false,false,false,false,false,false,false,false,false,false,false,false,false,false,false,false,false,false,false,false,false,false,false,false,false,false,false,false,false,false,false,false,false,false,false,false,false,false,false,false,false,false,false,false,false,false,false,false] (fun j:Nat=>j≤a.2.1.length) (fun j:Nat=>[(8,.ref 2),(9,.d (.int .i64 j))]) (fun j:Nat=>[(2,.arr 3 true (((stX a k).take j).map (e1 eInt)))]) (fun j:Nat=>a.2.1.length - j) 0 ?_ ?_ ?_
   · simp
   · exact⟨[0,1,2],by simp⟩
   rintro I2 S2 μ2 hI2 hS2 hμ2 j hj
   by_cases hlt2:j<a.2.1.length
   · have w4:IntKind.i64.wrap ((j:Int)+1)=(j:Int)+1:=wrap_id (by omega) (by omega)
     have w5:IntKind.i64.wrap (a.1+(j:Int))=a.1+(j:Int):=wrap_id (by omega) (by omega)
     have hnx:(stX a k).take (j+1)=(stX a k).take j++[shr64 k (a.1+(j:Int)) % 2]:=take_snoc' (stX_at hlt2)
     have hd:decide (j<a.2.1.length)=true:=decide_eq_true hlt2
     have hln:((stX a k).take j).length≤12:=by rw[List.length_take];omega
     simp[hd,w5,show 0≤a.1+(j:Int) by omega,and64_one]
     refine app_data vt_el_26 rfl (by simp) rfl (by simp) (by simp) (by first | (simp;done)|(simp;omega)) (by simp[flatP,flatD]) ?_
     simp[w4]
     exact round_of hI2 hS2 hμ2 (j+1) (by omega) (by omega) ⟨[0,1,4],by simp[hnx]⟩
   · have hj':j=a.2.1.length:=by omega
     subst hj'
     rw[←hts]
     have hsl:=stX_len (a:=a) (x:=k)
     have hsb:=stX_bits (a:=a) (x:=k)
     have cA:=sNetStep_con a (stX a k) k ha ga (stOk_of oa fa hsl hsb)
     have cL:=l25State_con ls (stX a k) hl.1 (by omega) hsb (lin _ hsl)
     have cB:=sNetStep_con b (lkL ls (stX a k)) k hb gb (stOk_of ob fb (by rw[lk_len,ll]) lk_bits)
     have rA:(stepG a (stX a k) k).1.length=a.2.1.length:=nxt_len hsl
     have bA:bitsI (stepG a (stX a k) k).1:=nxt_bits fa hsb
     have rB:(stepG b (lkL ls (stX a k)) k).1.length=b.2.1.length:=nxt_len (by rw[lk_len,ll])
     have hrel:relAtB a b ls k=(decide ((stepG a (stX a k) k).2=(stepG b (lkL ls (stX a k)) k).2)&&sameB (lkL ls (stepG a (stX a k) k).1) (stepG b (lkL ls (stX a k)) k).1):=rfl
     have hno:relAtB a b ls k=false→relAll a b ls=false:=relAll_not hlt
     have hyes:relAtB a b ls k=true→∀ j:Nat,j<k+1→relAtB a b ls j=true:=fun h j hj=>by
      by_cases e:j=k
      · rw[e];exact h
      · exact hall j (by omega)
     clear hts
     generalize stepG a (stX a k) k=pA at *
     generalize lkL ls (stX a k)=lst at *
     generalize stepG b lst k=pB at *
     generalize stX a k=st at *
     obtain⟨nA,oA⟩:=pA
     obtain⟨nB,oB⟩:=pB
     simp only at cA cB rA bA rB hrel
     simp
     refine call_step (cA) ?_
     simp
     refine⟨by kernel_rfl,?_⟩
     refine call_step (cL) ?_
     simp
     refine call_step (cB) ?_
     simp
     by_cases ho:oA=oB
     case neg =>
      have hz:=hno (by rw[hrel,decide_eq_false ho];rfl)
      simp[ho,show (oA != oB)=true by simpa using ho,hz]
     simp[ho,show (oA != oB)=false by simpa using ho]
     refine call_step (l25State_con ls nA hl.1 (by omega) bA (lin _ rA)) ?_
     simp
     refine call_step (l16Same_con (lkL ls nA) nB (by rw[lk_len];omega) (by rw[lk_len];omega)) ?_
     simp
     rcases Bool.eq_false_or_eq_true (sameB (lkL ls nA) nB) with h5|h5
     case inr =>
      have hz:=hno (by rw[hrel,h5,Bool.and_false])
      simp[h5,hz]
     have hy:=hyes (by rw[hrel,h5,decide_eq_true ho];rfl)
     simp[h5,w2]
     exact round_of hI hS hμ (k+1) ⟨by omega,hy⟩ (by omega) ⟨[0,1],by simp⟩
 · have hr:relAll a b ls=true:=List.all_eq_true.2 fun j hj=>hall j (by have:=List.mem_range.1 hj;omega)
   simp[w1,show 0≤a.1+(a.2.1.length:Int) by omega,hsh,hlt,hr]
end Go.Proofs.Ytnjedabjbeipeaa
