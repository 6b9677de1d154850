/-
  The law of area recovery: each call returns true, at every input.
  Conditions: none.
-/
import Derived.Test.YtakohcpfjkcfdaaPe
import Derived.Test.YtakohcpfjkcfdaaIu
import Derived.Test.YtakohcpfjkcfdaaMb
import Derived.Test.YtakohcpfjkcfdaaKfFnRecovered
namespace Go.Proofs.Ytakohcpfjkcfdaa
open Go.RowKit Go.ChangeShapes Go.WideShapes Go.ChangeAt
set_option linter.unusedVariables false
set_option linter.unusedSimpArgs false
attribute [local simp ↓] condG_true condG_false condB_true condB_false
attribute [local simp] AWp_skip AWp_region_t AWp_region_d AWp_region_f still_mk AWp_seq AWp_cond condV_bool condB AWp_block AWp_exit AWp_ret
attribute [local simp] AOps_nil AOp_move AOp_assign AOp_pick AOp_binOp AOp_unOp AOp_convert AOp_len AOp_max AOp_min AOp_indexAddr AOp_load
attribute [local simp] AOp_fieldAddr AOp_field AOp_extract AOp_nilCheck AOp_build AOp_alloc AOp_box AOp_call AOp_store AOp_append AOp_buildSlice nextB_some
attribute [local simp] nextB_none adoptO adoptC AOp_makeSlice AOp_slice AOp_makeFunc AOp_guard guardD_some guardG_bool guardG_undef nextO_some nextS_some
attribute [local simp] nextZ_some nextL_some nextM_some nextT_some sliceO sliceL sliceT partO partV boundV funcO pickO
attribute [local simp] convO lenO maxO minO idxO extO nilO buildO litO litC makeO chunks
attribute [local simp] fillV placeOf thenA inBlockA St.get St.put St.eval ofCell evalT abin_add abin_sub abin_mul
attribute [local simp] abin_quo abin_rem abin_and abin_or abin_xor abin_andNot abin_shl abin_shr abin_shlu abin_eql abin_eqp abin_neq
attribute [local simp] abin_lss abin_leq abin_gtr abin_geq abin_eqlb abin_neqb aun pickV lenV intOf? indexV takeD
attribute [local simp] takeV loadV fieldAddrV fieldV ofX presD presDs pres presAll cellsV V.cell storeV
attribute [local simp] freezeC putAt kill takeC plains plainV scalarV nat_neg keepT sets eSl e1
attribute [local simp] e2 e3 e4 eInt eBool abinS_d abinS_agg abinS nilEq abin_eqb AOp_makeMap AOp_lookup
attribute [local simp] AOp_mapUpdate lookG_some updG_some mapV kyOf vlOf lookV vlV buildA afterCall inst inst1
attribute [local simp] inst1s instD instDs RetA resVs resV gives give1 give1s Le isPin leSlots
attribute [local simp] leS leTmps leV le0 le0s ren ren0 renS ren0s frame enterT afterT_some
attribute [local simp] afterC_some lives Slot.live arrsOk viewV view0 renT rens renSs setAll List.range'_succ RetT
attribute [local simp] RetW joinV leT AOpsE_nil AOpsE_cons AOpsT_nil AOpsT_cons isCallT isFnO callOf callVC_fn condC_true
attribute [local simp] condC_false beginT_mk thenT_mk pickE pickT isT loose namesOf namesV names1 names0 stableN
attribute [local simp] sameAt Op.operands Call.operands
abbrev ibytes (bs:List Int):X:=.d (eSl 5 (e1 eByte) bs)
theorem big_con (bs:List Int) (h:bs.length≤9223372036854775807):ConC Try.prog 6 [ibytes bs] (.d (.bool (decide (1048576<bs.length)))):=by
 refine con_of (by kernel_rfl) Try.func6 rfl rfl rfl ?_
 simp
 omega
theorem opd_byte:OpD Try.prog eByte 5:=fun h _=>by
 obtain⟨n,rfl,_,hw⟩:=DataW.trod_int Try.underlying5 h
 exact⟨n,_,rfl,.int _ _,.int _ _ hw⟩
theorem bytes_len {w:World} {G:Nat→Prop} {bs:List Int} {v:Value} (h:Rd w G (eSl 5 (e1 eByte) bs) v):bs.length≤9223372036854775807:=by
 obtain⟨_,_,_,h⟩:=Rd.len h
 simpa using h
theorem op_bytes:OpD Try.prog (eSl 5 (e1 eByte)) 22:=opd_sl Try.underlying22 (by simp) (fun x=>by simp[e1]) (ope_1 opd_byte)
set_option maxRecDepth 100000 in
set_option maxHeartbeats 10000000 in
theorem law_recd (bs:List Int) (hb:bs.length≤9223372036854775807):ConC Try.prog 4 [ibytes bs] (.d (.bool true)):=by
 have k0:=big_con bs hb
 refine con_ofD (by kernel_rfl) Try.func4 rfl rfl rfl ?_
 simp
 by_cases hbig:1048576<bs.length
 · rw[decide_eq_true hbig] at k0
   refine call_step (k0) ?_
   simp
 rw[decide_eq_false hbig] at k0
 refine call_step (k0) ?_
 simp
 have kM:=DrawMapping_conT bs (by omega)
 have hm:=drM_ok bs
 generalize drN bs=x at *
 generalize drM bs=cs at *
 obtain⟨hok,hl,hcs⟩:=mapOk_of hm
 have hx:=fitGr_netOk hok
 have hg:=okGr_netOk hok
 have hc:=mapOk_rows2 hm
 have kR:=iRecover_con x cs hx hc
 have hr:recL x cs=recK x cs x.2.2.1.length:=if_pos hm
 have hn:=recK_nw hm x.2.2.1.length (Nat.le_refl _)
 rw[←hr] at hn
 have hmr:=hn.1
 have hcr:=mapOk_rows2 hmr
 have kO:=iMapOk_con x (recL x cs) hx hcr
 have kD:=iMapDepth_con x (recL x cs) hx hcr
 have kD2:=sMapDepth_con x cs hx hg hc
 have kC:=iMapCount_con x (recL x cs) hx hcr
 have kC2:=sMapCount_con x cs hx hg hc
 have kB:=iBetter_con x cs (recL x cs) hx hc hcr
 have kB2:=iBetter_con x (recL x cs) (recL x cs) hx hcr hcr
 have hb1:bmB x cs (recL x cs)=false:=by unfold bmB;rw[better_not hn];simp
 have hb2:bmB x (recL x cs) (recL x cs)=false:=by unfold bmB;rw[better_not (NwP.refl hmr)];simp
 rw[hb1] at kB
 rw[hb2] at kB2
 rw[hmr] at kO
 unfold ifMap at kD kD2 kC kC2
 rw[hm,if_pos rfl] at kD2 kC2
 rw[hmr,if_pos rfl] at kD kC
 have hd1:depthL x (recL x cs)≤depthL x cs:=hn.2.1
 have hd2:(costL x (recL x cs)).1≤(costL x cs).1:=by have:=hn.2.2;omega
 generalize (costL x (recL x cs)).1=c1 at *
 generalize (costL x cs).1=c2 at *
 generalize depthL x (recL x cs)=d1 at *
 generalize depthL x cs=d2 at *
 generalize recL x cs=r at *
 refine callT_step (kM) [] [] (by simp) ?_
 simp
 refine call_step (kR) ?_
 simp[enGr]
 refine drawD_of 36 (by kernel_rfl) ?_
 simp[enGr]
 refine call_step (kO) ?_
 simp[enGr]
 refine call_step (kD) ?_
 simp[enGr]
 refine call_step (kD2) ?_
 simp[enGr,hd1]
 refine call_step (kC) ?_
 simp[enGr]
 refine call_step (kC2) ?_
 simp[enGr,hd2]
 refine call_step (kB) ?_
 simp[enGr]
 refine call_step (kB2) ?_
 simp[enGr]
set_option maxRecDepth 100000 in
theorem FnRecovered_lifted (os:Os) (started:os.Started) (H:Type) (enc:TypeId×Value→H) :
 ReturnsInHanded {} Try.checked os 4 .any (Rows.fnRecoveredSpec.pre6 enc Try.prog Try.f4 Rows.fnRecoveredRow.domain false) (Rows.fnRecoveredSpec.post enc Try.prog Try.f4 false true false false):=by
 refine law_lift (C:=Try.checked) Try.own started (by kernel_rfl) Try.func4
  (ChangeSpec.witness6 (enc:=enc) (C:=Try.checked) false ⟨#[],#[.slice none 0 0],[]⟩ 8 (by kernel_rfl) (by kernel_rfl) (by kernel_rfl) (by kernel_rfl))
  Try.laidOut (of_decide_eq_true (by kernel_rfl)) rfl rfl Try.underlying4 ?_
 intro W base args ds ps hval0 hA0 hlt
 have hval:∀ (j:Nat) t v,Try.f4.params[j]? = some t→args[j]? = some v→Value.okWide Try.prog W .any base t v:=hval0
 have hA:DataW.TrodAll enc Try.prog W 0 (fun _=>true) true Try.f4.params.toList args.toList ds ps:=hA0
 clear hval0 hA0
 rw[Try.params4] at hA hval
 obtain⟨v0,vs0,d0,ds0,p0,q0,hargs,rfl,rfl,h0,r0⟩:=trodAll_cons hA
 obtain⟨rfl,rfl,rfl⟩:=trodAll_nil r0
 obtain rfl:args=#[v0]:=by cases args;simp_all
 obtain⟨bs,hb⟩:=openD_sl Try.underlying22 op_bytes (hval 0 _ v0 rfl rfl) h0 (fun x hx=>hlt x (by simp[hx]))
 exact⟨rfl,law_con (law_recd bs (bytes_len hb)) rfl (args1 (.d hb))⟩
theorem FnRecovered_holds:Rows.FnRecoveredSaid :=
 OpenClaim.holds_of_wide 4 Try.f4 rfl rfl rfl rfl rfl rfl rfl ⟨rfl,rfl,rfl,rfl,rfl⟩ rfl rfl rfl rfl rfl (by kernel_rfl) Try.func4 FnRecovered_closed
  (of_decide_eq_true (by kernel_rfl)) (by unfold Func.isWrapper;first | (rw[if_pos (by decide +kernel)];kernel_rfl)|(rw[if_neg (by decide +kernel)];exact⟨rfl,rfl⟩))
  (fun os started H enc _=>FnRecovered_lifted os started H enc)
#print axioms FnRecovered_holds
end Go.Proofs.Ytakohcpfjkcfdaa
