/-
  The law of state relations: each call returns true, at every input.
  Conditions: none.
-/
import Derived.Test.YtnjedabjbeipeaaSa
import Derived.Test.YtnjedabjbeipeaaSh
import Derived.Test.YtnjedabjbeipeaaNg
import Derived.Test.YtnjedabjbeipeaaNu
import Derived.Test.YtnjedabjbeipeaaKfFnRelationSound
namespace Go.Proofs.Ytnjedabjbeipeaa
open Go.RowKit Go.ChangeShapes Go.WideShapes Go.ChangeAt
set_option linter.unusedVariables false
set_option linter.unusedSimpArgs false
attribute [local simp ↓] condG_true condG_false condB_true condB_false
attribute [local simp] AWp_skip AWp_region_t AWp_region_d AWp_region_f still_mk AWp_seq AWp_cond condV_bool condB AWp_block AWp_exit AWp_ret
attribute [local simp] AOps_nil AOp_move AOp_assign AOp_pick AOp_binOp AOp_unOp AOp_convert AOp_len AOp_max AOp_min AOp_indexAddr AOp_load
attribute [local simp] AOp_fieldAddr AOp_field AOp_extract AOp_nilCheck AOp_build AOp_alloc AOp_box AOp_call AOp_store AOp_append AOp_buildSlice nextB_some
attribute [local simp] nextB_none adoptO adoptC AOp_makeSlice AOp_slice AOp_makeFunc AOp_guard guardD_some guardG_bool guardG_undef nextO_some nextS_some
attribute [local simp] nextZ_some nextL_some nextM_some nextT_some sliceO sliceL sliceT partO partV boundV funcO pickO
attribute [local simp] convO lenO maxO minO idxO extO nilO buildO litO litC makeO chunks
attribute [local simp] fillV placeOf thenA inBlockA St.get St.put St.eval ofCell evalT abin_add abin_sub abin_mul
attribute [local simp] abin_quo abin_rem abin_and abin_or abin_xor abin_andNot abin_shl abin_shr abin_shlu abin_eql abin_eqp abin_neq
attribute [local simp] abin_lss abin_leq abin_gtr abin_geq abin_eqlb abin_neqb aun pickV lenV intOf? indexV takeD
attribute [local simp] takeV loadV fieldAddrV fieldV ofX presD presDs pres presAll cellsV V.cell storeV
attribute [local simp] freezeC putAt kill takeC plains plainV scalarV nat_neg keepT sets eSl e1
attribute [local simp] e2 e3 e4 eInt eBool abinS_d abinS_agg abinS nilEq abin_eqb AOp_makeMap AOp_lookup
attribute [local simp] AOp_mapUpdate lookG_some updG_some mapV kyOf vlOf lookV vlV buildA afterCall inst inst1
attribute [local simp] inst1s instD instDs RetA resVs resV gives give1 give1s Le isPin leSlots
attribute [local simp] leS leTmps leV le0 le0s ren ren0 renS ren0s frame enterT afterT_some
attribute [local simp] afterC_some lives Slot.live arrsOk viewV view0 renT rens renSs setAll List.range'_succ RetT
attribute [local simp] RetW joinV leT AOpsE_nil AOpsE_cons AOpsT_nil AOpsT_cons isCallT isFnO callOf callVC_fn condC_true
attribute [local simp] condC_false beginT_mk beginX_mk AOpsX_zero thenT_mk pickE pickT isT loose namesOf namesV names1
attribute [local simp] names0 stableN sameAt Op.operands Call.operands
abbrev ibytes (bs:List Int):X:=.d (eSl 5 (e1 eByte) bs)
theorem big_con (bs:List Int) (h:bs.length≤9223372036854775807):ConC Try.prog 6 [ibytes bs] (.d (.bool (decide (1048576<bs.length)))):=by
 refine con_of (by kernel_rfl) Try.func6 rfl rfl rfl ?_
 simp
 omega
theorem opd_byte:OpD Try.prog eByte 5:=fun h _=>by
 obtain⟨n,rfl,_,hw⟩:=DataW.trod_int Try.underlying5 h
 exact⟨n,_,rfl,.int _ _,.int _ _ hw⟩
theorem bytes_len {w:World} {G:Nat→Prop} {bs:List Int} {v:Value} (h:Rd w G (eSl 5 (e1 eByte) bs) v):bs.length≤9223372036854775807:=by
 obtain⟨_,_,_,h⟩:=Rd.len h
 simpa using h
theorem op_bytes:OpD Try.prog (eSl 5 (e1 eByte)) 22:=opd_sl Try.underlying22 (by simp) (fun x=>by simp[e1]) (ope_1 opd_byte)
set_option maxRecDepth 100000 in
set_option maxHeartbeats 10000000 in
theorem law_rels (bs:List Int) (hb:bs.length≤9223372036854775807):ConC Try.prog 4 [ibytes bs] (.d (.bool true)):=by
 have k0:=big_con bs hb
 refine con_ofD (by kernel_rfl) Try.func4 rfl rfl rfl ?_
 simp
 by_cases hbig:1048576<bs.length
 · rw[decide_eq_true hbig] at k0
   refine call_step (k0) ?_
   simp
 rw[decide_eq_false hbig] at k0
 refine call_step (k0) ?_
 simp
 have kM:=DrawRelation_conT bs (by omega)
 have kI:=DrawMasks_conT bs (by omega)
 have hok:=frG_ok (cur0 bs)
 have hrf:=rl2_fit (a:=frG (cur0 bs)) (rl1_fit (c:=frC (cur0 bs)) hok)
 have hrd:relD (cur0 bs)=rl2 (frG (cur0 bs)) (rl1 (frG (cur0 bs)) (frC (cur0 bs))):=rfl
 rw[←hrd] at hrf
 clear hrd
 have hil:=drMs_len bs
 generalize frG (cur0 bs)=a at *
 generalize relD (cur0 bs)=r at *
 generalize drMs bs=ins at *
 obtain⟨b,ls,c9⟩:=r
 simp only at hrf kM
 obtain⟨htb,hl1,hl2⟩:=hrf
 have hx:=fitGr_netOk hok
 have hg:=okGr_netOk hok
 have hxb:=tame_fit htb
 have hgb:=htb.2
 have hfl:fitLk 1048576 ls:=⟨by omega,fun s hs=>by have:=hl2 s hs;omega⟩
 have hfl2:fitLk 1048576 (ls++[([-1],0)]):=⟨by simp;omega,fun s hs=>by
  rcases List.mem_append.1 hs with hs|hs
  · have:=hl2 s hs;omega
  · rw[List.mem_singleton.1 hs];simp⟩
 have k1:=sRel_con a b ls hx hxb hfl hg hgb
 have k2:=iRel_con a b ls hx hxb hfl
 have k3:=iLinksOk_con a b (ls++[([-1],0)]) hx hxb hfl2
 rw[links_bad] at k3
 have e3:(ls++[([-1],0)]).map enLink=ls.map enLink++[[.sl 3 [[.int .i64 (-1)]],.int .i64 0]]:=by rw[List.map_append];rfl
 unfold ilk eSl at k3
 rw[e3] at k3
 have k3T:ConT Try.prog 16 [vgr a,vgr b,.d (.sl 44 (ls.map enLink++[[.sl 3 [[.int .i64 (-1)]],.int .i64 0]]))] [] (.d (.bool false)) []:=conT_of_C k3 (by simp[notTup])
 cases hrel:relB a b ls with
 | false =>
   rw[hrel] at k1 k2
   refine callT_step (kM) [] [] (by simp) ?_
   simp
   refine callT_step (kI) [] [] (by simp) ?_
   simp
   refine call_step (k1) ?_
   simp[enGr]
   refine call_step (k2) ?_
   simp[enGr]
   refine drawE_of [(4,[0,1,5,6,7]),(8,[0,1]),(9,[]),(10,[]),(11,[])] (by kernel_rfl) ?_
   simp
   refine app_frozen (by exact rfl) vt_el_34 (by exact rfl) (by simp) (fun c hc=>by obtain⟨y,_,rfl⟩:=List.mem_map.1 hc;simp[enLink,e2]) (by simp;omega) ?_
   simp
   refine app_frozen (by exact rfl) vt_el_34 (by exact rfl) (by simp) (by simp[enRow,e1]) (by first | (simp;done)|(simp;omega)) ?_
   simp
   refine callC_step (k3T) [6] [] (by simp) (by simp[nearTo]) ?_
   simp
 | true =>
   rw[hrel] at k1 k2
   have hlk:linksOkB a b ls=true:=by
    have h:=hrel
    unfold relB at h
    simp only[Bool.and_eq_true] at h
    exact h.1.1.1
   obtain⟨oa,ob,fa,fb,ll,lin⟩:=linksOk_of hlk
   have hgb':=okGr_netOk ob
   have kA:=sNetStart_con a hx hg oa
   have kB:=sNetStart_con b hxb hgb ob
   have kN1:=iNetRun_con a ins hx (by omega)
   have kN2:=iNetRun_con b ins hxb (by omega)
   have hrn:=rel_netRun hrel ins
   have hrl:(netRunL b ins).length=ins.length:=by
    unfold netRunL
    rw[if_pos ⟨ob,by omega⟩,runOutsG_len]
   have kS:=lSame_con (netRunL b ins) (by omega)
   rw[hrn] at kN1
   have hs0:runStG a ins 0=startL a:=rfl
   have hs1:runStG b ins 0=startL b:=rfl
   generalize netRunL b ins=rr at *
   refine callT_step (kM) [] [] (by simp) ?_
   simp
   refine callT_step (kI) [] [] (by simp) ?_
   simp
   refine call_step (k1) ?_
   simp[enGr]
   refine call_step (k2) ?_
   simp[enGr]
   refine call_step (kA) ?_
   simp[enGr]
   refine call_step (kB) ?_
   simp[enGr]
   refine aw_loopN [false,false,false,true,true,true,true,false,true,true,true,false,false,false,false,false,false,false,false,false,false,false,false,false,false,false,false,false,false,false,false,false,false,false,false,false,false,false,false,false,false,false,false,false,false,false,false,false,false,false,false,false,false,false,false,false,false,false,false,false,false,false,false,false,false,false,false,false,false,false,false,false,false,false,false,false,false,false,false,false,false,false,false,false,false,false,false,false,false,false,false,false,false,false,false,false,false,false] (fun k:Nat=>k≤ins.length) (fun k:Nat=>[(8,.ref 2),(9,.ref 3),(10,.d (.int .i64 k))]) (fun k:Nat=>fun _=>[.var 28 [.d (.int .i64 a.1),.d (eSl 31 enSeq a.2.1),.d (eSl 60 enAnd a.2.2.1),.d (eSl 3 (e1 eInt) a.2.2.2)],.var 28 [.d (.int .i64 b.1),.d (eSl 31 enSeq b.2.1),.d (eSl 60 enAnd b.2.2.1),.d (eSl 3 (e1 eInt) b.2.2.2)],.arr 3 true ((runStG a ins k).map (e1 eInt)),.arr 3 true ((runStG b ins k).map (e1 eInt))]) (fun k:Nat=>ins.length - k) 0 ?_ ?_ ?_
   · exact Nat.zero_le _
   · exact⟨[0,1,2,3],by simp[hs0,hs1]⟩
   rintro I S μ hI hS hμ k hk
   by_cases hlt:k<ins.length
   · have hx1:ins[k]? = some ins[k]:=List.getElem?_eq_getElem hlt
     have w2:IntKind.i64.wrap ((k:Int)+1)=(k:Int)+1:=wrap_id (by omega) (by omega)
     obtain⟨hst,hbt⟩:=rel_runs hrel ins k
     have hla:=runStG_len (x:=a) (ins:=ins) k
     have hlb:=runStG_len (x:=b) (ins:=ins) k
     have soa:=runStG_ok (ins:=ins) oa k
     have sob:=runStG_ok (ins:=ins) ob k
     have hn1:runStG a ins (k+1)=(stepG a (runStG a ins k) ins[k]).1:=by simp[runStG,hx1]
     have hn2:runStG b ins (k+1)=(stepG b (runStG b ins k) ins[k]).1:=by simp[runStG,hx1]
     have kl:=iLinkState_con a b ls (runStG a ins k) hx hxb hfl (by obtain⟨⟨_,_,h3,_⟩,_⟩:=netOk_of oa;omega)
     rw[show lkStL a b ls (runStG a ins k)=runStG b ins k by unfold lkStL;rw[if_pos ⟨hlk,soa⟩,hst]] at kl
     have kss:=lSame_con (runStG b ins k) (by obtain⟨⟨_,_,h3,_⟩,_⟩:=netOk_of ob;omega)
     have kp:=sNetStep_con a (runStG a ins k) ins[k] hx hg soa
     have kq:=sNetStep_con b (runStG b ins k) ins[k] hxb hgb sob
     clear hst hs0 hs1
     obtain⟨a2,ha2⟩:∃ a2,runStG a ins (k+1)=a2:=⟨_,rfl⟩
     obtain⟨b2,hb2⟩:∃ b2,runStG b ins (k+1)=b2:=⟨_,rfl⟩
     rw[ha2] at hn1
     rw[hb2] at hn2
     rw[←hn1] at kp
     rw[←hn2] at kq
     generalize runStG a ins k=sa at *
     generalize runStG b ins k=sb at *
     generalize ins[k]=u at *
     simp[decide_eq_true hlt]
     refine call_step (kl) ?_
     simp[enGr]
     refine call_step (kss) ?_
     simp
     refine drawD_of 11 (by kernel_rfl) ?_
     simp[decide_eq_true hlt,hx1]
     refine call_step (kp) ?_
     simp[enGr,hx1]
     refine drawD_of 11 (by kernel_rfl) ?_
     simp[decide_eq_true hlt,hx1]
     refine call_step (kq) ?_
     simp[enGr,hx1,w2]
     exact round_of hI hS hμ (k+1) (by omega) (by omega) ⟨[0,1,5,6],by simp[ha2,hb2]⟩
   obtain rfl:k=ins.length:=by omega
   simp[hlt,decide_eq_false hlt]
   refine drawD_of 17 (by kernel_rfl) ?_
   simp
   refine call_step (kN1) ?_
   simp[enGr]
   refine call_step (kN2) ?_
   simp[enGr]
   refine call_step (kS) ?_
   simp
   refine call_step (kN1) ?_
   simp[enGr,hrl]
set_option maxRecDepth 100000 in
theorem FnRelationSound_lifted (os:Os) (started:os.Started) (H:Type) (enc:TypeId×Value→H) :
 ReturnsInHanded {} Try.checked os 4 .any (Rows.fnRelationSoundSpec.pre6 enc Try.prog Try.f4 Rows.fnRelationSoundRow.domain false) (Rows.fnRelationSoundSpec.post enc Try.prog Try.f4 false true false false):=by
 refine law_lift (C:=Try.checked) Try.own started (by kernel_rfl) Try.func4
  (ChangeSpec.witness6 (enc:=enc) (C:=Try.checked) false ⟨#[],#[.slice none 0 0],[]⟩ 8 (by kernel_rfl) (by kernel_rfl) (by kernel_rfl) (by kernel_rfl))
  Try.laidOut (of_decide_eq_true (by kernel_rfl)) rfl rfl Try.underlying4 ?_
 intro W base args ds ps hval0 hA0 hlt
 have hval:∀ (j:Nat) t v,Try.f4.params[j]? = some t→args[j]? = some v→Value.okWide Try.prog W .any base t v:=hval0
 have hA:DataW.TrodAll enc Try.prog W 0 (fun _=>true) true Try.f4.params.toList args.toList ds ps:=hA0
 clear hval0 hA0
 rw[Try.params4] at hA hval
 obtain⟨v0,vs0,d0,ds0,p0,q0,hargs,rfl,rfl,h0,r0⟩:=trodAll_cons hA
 obtain⟨rfl,rfl,rfl⟩:=trodAll_nil r0
 obtain rfl:args=#[v0]:=by cases args;simp_all
 obtain⟨bs,hb⟩:=openD_sl Try.underlying22 op_bytes (hval 0 _ v0 rfl rfl) h0 (fun x hx=>hlt x (by simp[hx]))
 exact⟨rfl,law_con (law_rels bs (bytes_len hb)) rfl (args1 (.d hb))⟩
theorem FnRelationSound_holds:Rows.FnRelationSoundSaid :=
 OpenClaim.holds_of_wide 4 Try.f4 rfl rfl rfl rfl rfl rfl rfl ⟨rfl,rfl,rfl,rfl,rfl⟩ rfl rfl rfl rfl rfl (by kernel_rfl) Try.func4 FnRelationSound_closed
  (of_decide_eq_true (by kernel_rfl)) (by unfold Func.isWrapper;first | (rw[if_pos (by decide +kernel)];kernel_rfl)|(rw[if_neg (by decide +kernel)];exact⟨rfl,rfl⟩))
  (fun os started H enc _=>FnRelationSound_lifted os started H enc)
#print axioms FnRelationSound_holds
end Go.Proofs.Ytnjedabjbeipeaa
