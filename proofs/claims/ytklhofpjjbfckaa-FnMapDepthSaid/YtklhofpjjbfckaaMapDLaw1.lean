/-
  The law of the depth of the mapping of least depth: each call returns true, at every input.
  Conditions: none.
-/
import Derived.Test.YtklhofpjjbfckaaPe
import Derived.Test.YtklhofpjjbfckaaHi
import Derived.Test.YtklhofpjjbfckaaHh
import Derived.Test.YtklhofpjjbfckaaMb
import Derived.Test.YtklhofpjjbfckaaKfFnMapDepth
namespace Go.Proofs.Ytklhofpjjbfckaa
open Go.RowKit Go.ChangeShapes Go.WideShapes Go.ChangeAt
set_option linter.unusedVariables false
set_option linter.unusedSimpArgs false
attribute [local simp ↓] condG_true condG_false condB_true condB_false
attribute [local simp] AWp_skip AWp_region_t AWp_region_d AWp_region_f still_mk AWp_seq AWp_cond condV_bool condB AWp_block AWp_exit AWp_ret
attribute [local simp] AOps_nil AOp_move AOp_assign AOp_pick AOp_binOp AOp_unOp AOp_convert AOp_len AOp_max AOp_min AOp_indexAddr AOp_load
attribute [local simp] AOp_fieldAddr AOp_field AOp_extract AOp_nilCheck AOp_build AOp_alloc AOp_box AOp_call AOp_store AOp_append AOp_buildSlice nextB_some
attribute [local simp] nextB_none adoptO adoptC AOp_makeSlice AOp_slice AOp_makeFunc AOp_guard guardD_some guardG_bool guardG_undef nextO_some nextS_some
attribute [local simp] nextZ_some nextL_some nextM_some nextT_some sliceO sliceL sliceT partO partV boundV funcO pickO
attribute [local simp] convO lenO maxO minO idxO extO nilO buildO litO litC makeO chunks
attribute [local simp] fillV placeOf thenA inBlockA St.get St.put St.eval ofCell evalT abin_add abin_sub abin_mul
attribute [local simp] abin_quo abin_rem abin_and abin_or abin_xor abin_andNot abin_shl abin_shr abin_shlu abin_eql abin_eqp abin_neq
attribute [local simp] abin_lss abin_leq abin_gtr abin_geq abin_eqlb abin_neqb aun pickV lenV intOf? indexV takeD
attribute [local simp] takeV loadV fieldAddrV fieldV ofX presD presDs pres presAll cellsV V.cell storeV
attribute [local simp] freezeC putAt kill takeC plains plainV scalarV nat_neg keepT sets eSl e1
attribute [local simp] e2 e3 e4 eInt eBool abinS_d abinS_agg abinS nilEq abin_eqb AOp_makeMap AOp_lookup
attribute [local simp] AOp_mapUpdate lookG_some updG_some mapV kyOf vlOf lookV vlV buildA afterCall inst inst1
attribute [local simp] inst1s instD instDs RetA resVs resV gives give1 give1s Le isPin leSlots
attribute [local simp] leS leTmps leV le0 le0s ren ren0 renS ren0s frame enterT afterT_some
attribute [local simp] afterC_some lives Slot.live arrsOk viewV view0 renT rens renSs setAll List.range'_succ RetT
attribute [local simp] RetW joinV leT AOpsE_nil AOpsE_cons AOpsT_nil AOpsT_cons isCallT isFnO callOf callVC_fn condC_true
attribute [local simp] condC_false beginT_mk thenT_mk pickE pickT isT loose namesOf namesV names1 names0 stableN
attribute [local simp] sameAt Op.operands Call.operands
abbrev ibytes (bs:List Int):X:=.d (eSl 5 (e1 eByte) bs)
theorem big_con (bs:List Int) (h:bs.length≤9223372036854775807):ConC Try.prog 15 [ibytes bs] (.d (.bool (decide (1048576<bs.length)))):=by
 refine con_of (by kernel_rfl) Try.func15 rfl rfl rfl ?_
 simp
 omega
theorem opd_byte:OpD Try.prog eByte 5:=fun h _=>by
 obtain⟨n,rfl,_,hw⟩:=DataW.trod_int Try.underlying5 h
 exact⟨n,_,rfl,.int _ _,.int _ _ hw⟩
theorem bytes_len {w:World} {G:Nat→Prop} {bs:List Int} {v:Value} (h:Rd w G (eSl 5 (e1 eByte) bs) v):bs.length≤9223372036854775807:=by
 obtain⟨_,_,_,h⟩:=Rd.len h
 simpa using h
theorem op_bytes:OpD Try.prog (eSl 5 (e1 eByte)) 22:=opd_sl Try.underlying22 (by simp) (fun x=>by simp[e1]) (ope_1 opd_byte)
theorem mapOk_rows {x:GrD} {cs:List RowD} (hm:mapOkB x cs=true):fitRw 1048576 cs:=by
 obtain⟨hok,hl,hcs⟩:=mapOk_of hm
 have h300:=(netOk_of hok).1.2.2.2.1
 refine⟨by omega,fun r hr=>?_⟩
 obtain⟨i,hi,rfl⟩:=List.getElem_of_mem hr
 have:=(hcs i _ (List.getElem?_eq_getElem hi)).2.1
 omega
theorem lSame_con (a:List Int) (ha:a.length≤1048576):ConC Try.prog 48 [ints a,ints a] (.d (.bool true)):=by
 refine con_of (by kernel_rfl) Try.func48 rfl rfl rfl ?_
 simp
 refine aw_loopU [true,true,false,false,false,true,false,false,false,false,false,false,false,false,false,false,false,false,false,false,false,false,false,false,false,false] (fun k:Nat=>k≤a.length) (fun k:Nat=>[(5,.d (.int .i64 k))]) (fun k:Nat=>[]) (fun k:Nat=>a.length - k) 0 ?_ ?_ ?_
 · simp
 · exact⟨[],by simp⟩
 rintro I S μ hI hS hμ k hk
 by_cases hlt:k<a.length
 · have hx1:a[k]? = some a[k]:=List.getElem?_eq_getElem hlt
   have w2:IntKind.i64.wrap ((k:Int)+1)=(k:Int)+1:=wrap_id (by omega) (by omega)
   generalize a[k]=u at *
   have hd:decide (k<a.length)=true:=decide_eq_true hlt
   simp[hd,hx1,w2]
   exact⟨by kernel_rfl,round_of hI hS hμ (k+1) (by omega) (by omega) ⟨[],by simp⟩⟩
 · have hk':k=a.length:=by omega
   simp[hlt]
set_option maxRecDepth 100000 in
set_option maxHeartbeats 10000000 in
theorem law_mapd (bs:List Int) (hb:bs.length≤9223372036854775807):ConC Try.prog 9 [ibytes bs] (.d (.bool true)):=by
 have k0:=big_con bs hb
 refine con_ofD (by kernel_rfl) Try.func9 rfl rfl rfl ?_
 simp
 by_cases hbig:1048576<bs.length
 · rw[decide_eq_true hbig] at k0
   refine call_step (k0) ?_
   simp
 rw[decide_eq_false hbig] at k0
 refine call_step (k0) ?_
 simp
 have kM:=DrawMapping_conT bs (by omega)
 have hok:=drN_ok bs
 generalize drN bs=x at *
 generalize drM bs=cs at *
 obtain⟨⟨n1,n2,n3,n4,n5,n6⟩,-,-,-⟩:=netOk_of hok
 obtain⟨hF,hgl,hNi,hno⟩:=ok_sizes hok
 have hN:=grN_eq x
 have hx:=fitGr_netOk hok
 have hg:=okGr_netOk hok
 have kL:=iLabels_con x hx
 have hZ:labZ x=labelsL x:=if_pos hok
 rw[hZ] at kL
 have hll:=(labelsL_ok hok).len
 have kN:=sNodeCount_con x
 rw[hno] at kN
 have kD:=iDepth_con' x hx
 have hm:=depth_ok hok
 have hfr:=mapOk_rows hm
 have kO:=iMapOk_con x (depthMap x) hx hfr
 have kV:=iMapLevels_con x (depthMap x) hx hfr
 unfold ifMap at kV
 rw[hm,if_pos rfl,depth_lv hok] at kV
 rw[hm] at kO
 have kS:=lSame_con (labelsL x) (by omega)
 generalize depthMap x=ds at *
 generalize labelsL x=lab at *
 refine callT_step (kM) [] [] (by simp) ?_
 simp
 refine call_step (kD) ?_
 simp[enGr]
 refine call_step (kL) ?_
 simp[enGr]
 refine call_step (kO) ?_
 simp[enGr]
 refine call_step (kV) ?_
 simp[enGr]
 refine call_step (kS) ?_
 simp
 refine call_step (kN) ?_
 simp[hll]
set_option maxRecDepth 100000 in
theorem FnMapDepth_lifted (os:Os) (started:os.Started) (H:Type) (enc:TypeId×Value→H) :
 ReturnsInHanded {} Try.checked os 9 .any (Rows.fnMapDepthSpec.pre6 enc Try.prog Try.f9 Rows.fnMapDepthRow.domain false) (Rows.fnMapDepthSpec.post enc Try.prog Try.f9 false true false false):=by
 refine law_lift (C:=Try.checked) Try.own started (by kernel_rfl) Try.func9
  (ChangeSpec.witness6 (enc:=enc) (C:=Try.checked) false ⟨#[],#[.slice none 0 0],[]⟩ 8 (by kernel_rfl) (by kernel_rfl) (by kernel_rfl) (by kernel_rfl))
  Try.laidOut (of_decide_eq_true (by kernel_rfl)) rfl rfl Try.underlying4 ?_
 intro W base args ds ps hval0 hA0 hlt
 have hval:∀ (j:Nat) t v,Try.f9.params[j]? = some t→args[j]? = some v→Value.okWide Try.prog W .any base t v:=hval0
 have hA:DataW.TrodAll enc Try.prog W 0 (fun _=>true) true Try.f9.params.toList args.toList ds ps:=hA0
 clear hval0 hA0
 rw[Try.params9] at hA hval
 obtain⟨v0,vs0,d0,ds0,p0,q0,hargs,rfl,rfl,h0,r0⟩:=trodAll_cons hA
 obtain⟨rfl,rfl,rfl⟩:=trodAll_nil r0
 obtain rfl:args=#[v0]:=by cases args;simp_all
 obtain⟨bs,hb⟩:=openD_sl Try.underlying22 op_bytes (hval 0 _ v0 rfl rfl) h0 (fun x hx=>hlt x (by simp[hx]))
 exact⟨rfl,law_con (law_mapd bs (bytes_len hb)) rfl (args1 (.d hb))⟩
theorem FnMapDepth_holds:Rows.FnMapDepthSaid :=
 OpenClaim.holds_of_wide 9 Try.f9 rfl rfl rfl rfl rfl rfl rfl ⟨rfl,rfl,rfl,rfl,rfl⟩ rfl rfl rfl rfl rfl (by kernel_rfl) Try.func9 FnMapDepth_closed
  (of_decide_eq_true (by kernel_rfl)) (by unfold Func.isWrapper;first | (rw[if_pos (by decide +kernel)];kernel_rfl)|(rw[if_neg (by decide +kernel)];exact⟨rfl,rfl⟩))
  (fun os started H enc _=>FnMapDepth_lifted os started H enc)
#print axioms FnMapDepth_holds
end Go.Proofs.Ytklhofpjjbfckaa
