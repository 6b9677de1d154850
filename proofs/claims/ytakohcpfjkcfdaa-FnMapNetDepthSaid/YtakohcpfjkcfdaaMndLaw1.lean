/-
  The law of the mapping of a net: each call returns true, at every input.
  Conditions: none.
-/
import Derived.Test.YtakohcpfjkcfdaaPe
import Derived.Test.YtakohcpfjkcfdaaIu
import Derived.Test.YtakohcpfjkcfdaaJa
import Derived.Test.YtakohcpfjkcfdaaHg
import Derived.Test.YtakohcpfjkcfdaaKfFnMapNetDepth
namespace Go.Proofs.Ytakohcpfjkcfdaa
open Go.RowKit Go.ChangeShapes Go.WideShapes Go.ChangeAt
set_option linter.unusedVariables false
set_option linter.unusedSimpArgs false
attribute [local simp ↓] condG_true condG_false condB_true condB_false
attribute [local simp] AWp_skip AWp_region_t AWp_region_d AWp_region_f still_mk AWp_seq AWp_cond condV_bool condB AWp_block AWp_exit AWp_ret
attribute [local simp] AOps_nil AOp_move AOp_assign AOp_pick AOp_binOp AOp_unOp AOp_convert AOp_len AOp_max AOp_min AOp_indexAddr AOp_load
attribute [local simp] AOp_fieldAddr AOp_field AOp_extract AOp_nilCheck AOp_build AOp_alloc AOp_box AOp_call AOp_store AOp_append AOp_buildSlice nextB_some
attribute [local simp] nextB_none adoptO adoptC AOp_makeSlice AOp_slice AOp_makeFunc AOp_guard guardD_some guardG_bool guardG_undef nextO_some nextS_some
attribute [local simp] nextZ_some nextL_some nextM_some nextT_some sliceO sliceL sliceT partO partV boundV funcO pickO
attribute [local simp] convO lenO maxO minO idxO extO nilO buildO litO litC makeO chunks
attribute [local simp] fillV placeOf thenA inBlockA St.get St.put St.eval ofCell evalT abin_add abin_sub abin_mul
attribute [local simp] abin_quo abin_rem abin_and abin_or abin_xor abin_andNot abin_shl abin_shr abin_shlu abin_eql abin_eqp abin_neq
attribute [local simp] abin_lss abin_leq abin_gtr abin_geq abin_eqlb abin_neqb aun pickV lenV intOf? indexV takeD
attribute [local simp] takeV loadV fieldAddrV fieldV ofX presD presDs pres presAll cellsV V.cell storeV
attribute [local simp] freezeC putAt kill takeC plains plainV scalarV nat_neg keepT sets eSl e1
attribute [local simp] e2 e3 e4 eInt eBool abinS_d abinS_agg abinS nilEq abin_eqb AOp_makeMap AOp_lookup
attribute [local simp] AOp_mapUpdate lookG_some updG_some mapV kyOf vlOf lookV vlV buildA afterCall inst inst1
attribute [local simp] inst1s instD instDs RetA resVs resV gives give1 give1s Le isPin leSlots
attribute [local simp] leS leTmps leV le0 le0s ren ren0 renS ren0s frame enterT afterT_some
attribute [local simp] afterC_some lives Slot.live arrsOk viewV view0 renT rens renSs setAll List.range'_succ RetT
attribute [local simp] RetW joinV leT AOpsE_nil AOpsE_cons AOpsT_nil AOpsT_cons isCallT isFnO callOf callVC_fn condC_true
attribute [local simp] condC_false beginT_mk thenT_mk pickE pickT isT loose namesOf namesV names1 names0 stableN
attribute [local simp] sameAt Op.operands Call.operands
abbrev ibytes (bs:List Int):X:=.d (eSl 5 (e1 eByte) bs)
theorem big_con (bs:List Int) (h:bs.length≤9223372036854775807):ConC Try.prog 6 [ibytes bs] (.d (.bool (decide (1048576<bs.length)))):=by
 refine con_of (by kernel_rfl) Try.func6 rfl rfl rfl ?_
 simp
 omega
theorem opd_byte:OpD Try.prog eByte 5:=fun h _=>by
 obtain⟨n,rfl,_,hw⟩:=DataW.trod_int Try.underlying5 h
 exact⟨n,_,rfl,.int _ _,.int _ _ hw⟩
theorem bytes_len {w:World} {G:Nat→Prop} {bs:List Int} {v:Value} (h:Rd w G (eSl 5 (e1 eByte) bs) v):bs.length≤9223372036854775807:=by
 obtain⟨_,_,_,h⟩:=Rd.len h
 simpa using h
theorem op_bytes:OpD Try.prog (eSl 5 (e1 eByte)) 22:=opd_sl Try.underlying22 (by simp) (fun x=>by simp[e1]) (ope_1 opd_byte)
theorem sRoots2_con (x:GrD) (hx:fitGr 1048576 x) (hg:okGr x) (hok:netOkB x=true):ConC Try.prog 21 [igr x] (.d (eSl 3 (e1 eInt) (grRoots x))):=by
 have kO:=sNetOk_con x hx hg
 rw[hok] at kO
 have kR:=sRoots_con x hx (netOk_of hok).1.2.2.1
 generalize grRoots x=rs at *
 refine con_of (by kernel_rfl) Try.func21 rfl rfl rfl ?_
 simp[enGr]
 refine call_step (kO) ?_
 simp
 refine call_step (kR) ?_
 simp
theorem iMapNet_con (x:GrD) (hx:fitGr 1048576 x) (hok:netOkB x=true):ConC Try.prog 19 [igr x] (irows (recL x (depthMap x))):=by
 have kD:=iDepth_con' x hx
 have kR:=iRecover_con x (depthMap x) hx (mapOk_rows2 (depth_ok hok))
 generalize recL x (depthMap x)=r at *
 generalize depthMap x=d at *
 refine con_ofD (by kernel_rfl) Try.func19 rfl rfl rfl ?_
 simp[enGr]
 refine drawD_of 3 (by kernel_rfl) ?_
 simp[enGr]
 refine call_step (kD) ?_
 simp[enGr]
 refine call_step (kR) ?_
 simp
set_option maxRecDepth 100000 in
set_option maxHeartbeats 10000000 in
theorem law_mnd (bs:List Int) (hb:bs.length≤9223372036854775807):ConC Try.prog 5 [ibytes bs] (.d (.bool true)):=by
 have k0:=big_con bs hb
 refine con_ofD (by kernel_rfl) Try.func5 rfl rfl rfl ?_
 simp
 by_cases hbig:1048576<bs.length
 · rw[decide_eq_true hbig] at k0
   refine call_step (k0) ?_
   simp
 rw[decide_eq_false hbig] at k0
 refine call_step (k0) ?_
 simp
 have kM:=DrawMapping_conT bs (by omega)
 have hm:=drM_ok bs
 generalize drN bs=x at *
 generalize drM bs=cs at *
 obtain⟨hok,hl,hcs⟩:=mapOk_of hm
 obtain⟨⟨n1,n2,n3,n4,n5,n6⟩,-,-,-⟩:=netOk_of hok
 obtain⟨hF,hgl,hNi,hno⟩:=ok_sizes hok
 have hx:=fitGr_netOk hok
 have hg:=okGr_netOk hok
 have hc:=mapOk_rows2 hm
 have kN:=iMapNet_con x hx hok
 obtain⟨hmr,hdr⟩:=net_depth hok
 have hcr:=mapOk_rows2 hmr
 have kO:=iMapOk_con x (recL x (depthMap x)) hx hcr
 have kD:=iMapDepth_con x (recL x (depthMap x)) hx hcr
 have kDc:=iMapDepth_con x cs hx hc
 rw[hmr] at kO
 unfold ifMap at kD kDc
 rw[hm,if_pos rfl] at kDc
 rw[hmr,if_pos rfl,hdr,dp_best hok] at kD
 have kL:=sLabels_con x hx hg
 have hZ:labZ x=labelsL x:=if_pos hok
 rw[hZ] at kL
 have hll:=(labelsL_ok hok).len
 have kR:=sRoots2_con x hx hg hok
 have hrl:=rootsN_len hok
 have hri:=rootsN_in hok
 have hle:=depth_least hm
 rw[dp_best hok] at hle
 have hds:∀ k y,(grRoots x)[k]? = some y→dpK (labelsL x) (grRoots x) (k+1)=mx (dpK (labelsL x) (grRoots x) k) (atI (labelsL x) (y / 2)):=fun k y h=>by
  show mx (dpK (labelsL x) (grRoots x) k) (atI (labelsL x) (atI (grRoots x) k / 2))=_
  rw[atI_get h]
 generalize depthL x cs=d2 at *
 generalize recL x (depthMap x)=r at *
 generalize grRoots x=rs at *
 generalize labelsL x=lab at *
 refine callT_step (kM) [] [] (by simp) ?_
 simp
 refine call_step (kN) ?_
 simp[enGr]
 refine call_step (kD) ?_
 simp[enGr]
 refine call_step (kL) ?_
 simp[enGr]
 refine call_step (kR) ?_
 simp[enGr]
 refine aw_loopN [false,false,false,true,true,true,true,true,true,true,true,false,false,false,false,false,false,false,false,false,false,false,false,false,false,false,false,false,false,false,false,false,false,false,false,false,false,false,false,false,false,false,false,false,false,false,false,false,false,false,false,false,false,false,false,false,false,false] (fun k:Nat=>k≤rs.length) (fun k:Nat=>[(7,.d (.int .i64 (dpK lab rs k))),(10,.d (.int .i64 k))]) (fun k:Nat=>fun sl=>[.var 28 [.d (.int .i64 x.1),.d (eSl 68 enSeq x.2.1),.d (eSl 56 enAnd x.2.2.1),.d (eSl 3 (e1 eInt) x.2.2.2)],.arr 26 true (r.map enRow),.arr 3 true (lab.map (e1 eInt)),.arr 3 true (rs.map (e1 eInt))]) (fun k:Nat=>rs.length - k) 0 ?_ ?_ ?_
 · exact Nat.zero_le _
 · exact⟨[0,1,2,3],by simp[dpK]⟩
 rintro I S μ hI hS hμ k hk
 by_cases hlt:k<rs.length
 · have hx1:rs[k]? = some rs[k]:=List.getElem?_eq_getElem hlt
   have w2:IntKind.i64.wrap ((k:Int)+1)=(k:Int)+1:=wrap_id (by omega) (by omega)
   have hd:decide (k<rs.length)=true:=decide_eq_true hlt
   have hyr:=hri _ (List.getElem_mem hlt)
   have hnx:=hds k _ hx1
   generalize rs[k]=y at *
   have q1:IntKind.i64.wrap (y.tdiv 2)=y / 2:=by rw[Int.tdiv_eq_ediv_of_nonneg hyr.1];exact wrap_id (by omega) (by omega)
   have hr:=at_read (lv:=lab) (k:=y / 2) (by omega)
   have hm2:=mx_if (dpK lab rs k) (atI lab (y / 2))
   rw[←hnx] at hm2
   simp[hd,hx1,q1,hr,w2,show ¬ y / 2<0 by omega,hm2]
   exact round_of hI hS hμ (k+1) (by omega) (by omega) ⟨[0,1,2,3],by simp⟩
 · obtain rfl:k=rs.length:=by omega
   simp[hlt]
   refine call_step (kO) ?_
   simp[enGr]
   refine call_step (kDc) ?_
   simp[enGr,hle]
set_option maxRecDepth 100000 in
theorem FnMapNetDepth_lifted (os:Os) (started:os.Started) (H:Type) (enc:TypeId×Value→H) :
 ReturnsInHanded {} Try.checked os 5 .any (Rows.fnMapNetDepthSpec.pre6 enc Try.prog Try.f5 Rows.fnMapNetDepthRow.domain false) (Rows.fnMapNetDepthSpec.post enc Try.prog Try.f5 false true false false):=by
 refine law_lift (C:=Try.checked) Try.own started (by kernel_rfl) Try.func5
  (ChangeSpec.witness6 (enc:=enc) (C:=Try.checked) false ⟨#[],#[.slice none 0 0],[]⟩ 8 (by kernel_rfl) (by kernel_rfl) (by kernel_rfl) (by kernel_rfl))
  Try.laidOut (of_decide_eq_true (by kernel_rfl)) rfl rfl Try.underlying4 ?_
 intro W base args ds ps hval0 hA0 hlt
 have hval:∀ (j:Nat) t v,Try.f5.params[j]? = some t→args[j]? = some v→Value.okWide Try.prog W .any base t v:=hval0
 have hA:DataW.TrodAll enc Try.prog W 0 (fun _=>true) true Try.f5.params.toList args.toList ds ps:=hA0
 clear hval0 hA0
 rw[Try.params5] at hA hval
 obtain⟨v0,vs0,d0,ds0,p0,q0,hargs,rfl,rfl,h0,r0⟩:=trodAll_cons hA
 obtain⟨rfl,rfl,rfl⟩:=trodAll_nil r0
 obtain rfl:args=#[v0]:=by cases args;simp_all
 obtain⟨bs,hb⟩:=openD_sl Try.underlying22 op_bytes (hval 0 _ v0 rfl rfl) h0 (fun x hx=>hlt x (by simp[hx]))
 exact⟨rfl,law_con (law_mnd bs (bytes_len hb)) rfl (args1 (.d hb))⟩
theorem FnMapNetDepth_holds:Rows.FnMapNetDepthSaid :=
 OpenClaim.holds_of_wide 5 Try.f5 rfl rfl rfl rfl rfl rfl rfl ⟨rfl,rfl,rfl,rfl,rfl⟩ rfl rfl rfl rfl rfl (by kernel_rfl) Try.func5 FnMapNetDepth_closed
  (of_decide_eq_true (by kernel_rfl)) (by unfold Func.isWrapper;first | (rw[if_pos (by decide +kernel)];kernel_rfl)|(rw[if_neg (by decide +kernel)];exact⟨rfl,rfl⟩))
  (fun os started H enc _=>FnMapNetDepth_lifted os started H enc)
#print axioms FnMapNetDepth_holds
end Go.Proofs.Ytakohcpfjkcfdaa
