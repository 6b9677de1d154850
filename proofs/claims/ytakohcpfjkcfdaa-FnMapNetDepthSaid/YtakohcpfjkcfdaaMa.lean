/-
  Depth, count and edges of a mapping, by abstract walks: both sides.
  Conditions: those typed in each theorem.
-/
import Derived.Test.YtakohcpfjkcfdaaNr
namespace Go.Proofs.Ytakohcpfjkcfdaa
open Go.RowKit Go.ChangeShapes Go.WideShapes
set_option linter.unusedVariables false
set_option linter.unusedSimpArgs false
attribute [local simp ↓] condG_true condG_false condB_true condB_false
attribute [local simp] AWp_skip AWp_region_t AWp_region_d AWp_region_f still_mk AWp_seq AWp_cond condV_bool condB AWp_block AWp_exit AWp_ret
attribute [local simp] AOps_nil AOp_move AOp_assign AOp_pick AOp_binOp AOp_unOp AOp_convert AOp_len AOp_max AOp_min AOp_indexAddr AOp_load
attribute [local simp] AOp_fieldAddr AOp_field AOp_extract AOp_nilCheck AOp_build AOp_alloc AOp_box AOp_call AOp_store AOp_append AOp_buildSlice nextB_some
attribute [local simp] nextB_none adoptO adoptC AOp_makeSlice AOp_slice AOp_makeFunc AOp_guard guardD_some guardG_bool guardG_undef nextO_some nextS_some
attribute [local simp] nextZ_some nextL_some nextM_some nextT_some sliceO sliceL sliceT partO partV boundV funcO pickO
attribute [local simp] convO lenO maxO minO idxO extO nilO buildO litO litC makeO chunks
attribute [local simp] fillV placeOf thenA inBlockA St.get St.put St.eval ofCell evalT abin_add abin_sub abin_mul
attribute [local simp] abin_quo abin_rem abin_and abin_or abin_xor abin_andNot abin_shl abin_shr abin_shlu abin_eql abin_eqp abin_neq
attribute [local simp] abin_lss abin_leq abin_gtr abin_geq abin_eqlb abin_neqb aun pickV lenV intOf? indexV takeD
attribute [local simp] takeV loadV fieldAddrV fieldV ofX presD presDs pres presAll cellsV V.cell storeV
attribute [local simp] freezeC putAt kill takeC plains plainV scalarV nat_neg keepT sets eSl e1
attribute [local simp] e2 e3 e4 eInt eBool abinS_d abinS_agg abinS nilEq abin_eqb AOp_makeMap AOp_lookup
attribute [local simp] AOp_mapUpdate lookG_some updG_some mapV kyOf vlOf lookV vlV buildA afterCall inst inst1
attribute [local simp] inst1s instD instDs RetA resVs resV gives give1 give1s Le isPin leSlots
attribute [local simp] leS leTmps leV le0 le0s ren ren0 renS ren0s frame enterT afterT_some
attribute [local simp] afterC_some lives Slot.live arrsOk viewV view0 renT rens renSs setAll List.range'_succ RetT
attribute [local simp] RetW joinV leT AOpsE_nil AOpsE_cons AOpsT_nil AOpsT_cons isCallT isFnO callOf callVC_fn condC_true
attribute [local simp] condC_false beginT_mk thenT_mk pickE pickT isT loose namesOf namesV names1 names0 stableN
attribute [local simp] sameAt Op.operands Call.operands
attribute [local simp] mcone_len esc_len
theorem lv_depth {x:GrD} {cs:List RowD} (hok:netOkB x=true) {k:Nat} {y:Int} (h:(grRoots x)[k]? = some y):dpK (levelsL x cs) (grRoots x) (k+1)=mx (dpK (levelsL x cs) (grRoots x) k) (atI (levelsL x cs) (y / 2)):=by
 show mx (dpK (levelsL x cs) (grRoots x) k) (atI (levelsL x cs) (atI (grRoots x) k / 2))=_
 rw[atI_get h]
theorem cnK_succ {u:List Bool} {k:Nat}:cnK u (k+1)=if getB u k=true then cnK u k+1 else cnK u k:=rfl
theorem edK_succ {u:List Bool} {cs:List RowD} {k:Nat} {c:RowD} (h:cs[k]? = some c):edK u cs (k+1)=if getB u k=true then edK u cs k+c.length else edK u cs k:=by
 show (if getB u k=true then edK u cs k+((cs[k]?).getD []).length else edK u cs k)=_
 rw[h]
 rfl
set_option maxRecDepth 100000 in
set_option maxHeartbeats 1000000 in
theorem iCost_con (x:GrD) (cs:List RowD) (hx:fitGr 1048576 x) (hc:fitRw 1048576 cs) (hm:mapOkB x cs=true):ConC Try.prog 30 [igr x,irows cs] (.tup [.d (.int .i64 (costL x cs).1),.d (.int .i64 (costL x cs).2.1),.d (.int .i64 (costL x cs).2.2)]):=by
 obtain⟨hok,hl,hcs⟩:=mapOk_of hm
 obtain⟨⟨n1,n2,n3,n4,n5,n6⟩,-,-,-⟩:=netOk_of hok
 obtain⟨hF,hgl,hNi,hno⟩:=ok_sizes hok
 have hul:=usedL_len (x:=x) (cs:=cs)
 have hu:=iUsed_con x cs hx hc hm
 have hrl:=rootsN_len hok
 have hri:=rootsN_in hok
 have hds:∀ k y,(grRoots x)[k]? = some y→_:=fun k y=>lv_depth (cs:=cs) hok (k:=k) (y:=y)
 have hll:(levelsL x cs).length=grN x:=lvM_len _
 have hlc:=iLevels_con x cs hx hc hm
 have hcl:(costL x cs).1=(cnK (usedL x cs) x.2.2.1.length:Int)∧(costL x cs).2.1=(edK (usedL x cs) cs x.2.2.1.length:Int)∧(costL x cs).2.2=dpK (levelsL x cs) (grRoots x) (grRoots x).length:=⟨rfl,rfl,rfl⟩
 rw[hcl.1,hcl.2.1,hcl.2.2]
 generalize usedL x cs=u at *
 refine con_of (by kernel_rfl) Try.func30 rfl rfl rfl ?_
 simp[enGr]
 refine callT_step (hu) [] [] (by simp) ?_
 simp
 refine aw_loopU [false,true,true,false,false,false,false,true,true,true,false,false,false,false,false,false,false,true,true,true,false,false,false,false,false,false,false,false,false,false,false,false,false,false,false,false,false,false,false,false,false,false,false,false,false,false,false,false,false,false,false,false,false,false,false,false] (fun k:Nat=>k≤x.2.2.1.length) (fun k:Nat=>[(7,.d (.int .i64 (cnK u k))),(8,.d (.int .i64 (edK u cs k))),(19,.d (.int .i64 k))]) (fun k:Nat=>[]) (fun k:Nat=>x.2.2.1.length - k) 0 ?_ ?_ ?_
 · simp
 · exact⟨[0],by simp[cnK,edK]⟩
 rintro I S μ hI hS hμ k hk
 have hc1:=cnK_le (u:=u) k
 have he1:=edK_le (u:=u) (cs:=cs) (m:=4) (fun k c h=>(hcs k c h).2.1) k
 by_cases hlt:k<x.2.2.1.length
 · obtain⟨c,hx1⟩:∃ c,cs[k]? = some c:=⟨_,List.getElem?_eq_getElem (by omega)⟩
   obtain⟨-,hc4,-⟩:=hcs k c hx1
   have hat:=getB_at (s:=u) (v:=k) (by omega)
   have hcn:=cnK_succ (u:=u) (k:=k)
   have hed:=edK_succ (u:=u) hx1
   have hL:(enRow c).length=1:=rfl
   have w2:IntKind.i64.wrap ((k:Int)+1)=(k:Int)+1:=wrap_id (by omega) (by omega)
   have w3:IntKind.i64.wrap ((cnK u k:Int)+1)=(cnK u k:Int)+1:=wrap_id (by omega) (by omega)
   have w4:IntKind.i64.wrap ((edK u cs k:Int)+(c.length:Int))=(edK u cs k:Int)+(c.length:Int):=wrap_id (by omega) (by omega)
   have hd:decide (k<x.2.2.1.length)=true:=decide_eq_true hlt
   rcases Bool.eq_false_or_eq_true (getB u k) with hb|hb
   · rw[hb,if_pos rfl] at hcn hed
     simp[hul,hd,hat,hb,hx1,hL,enRow,w2,w3,w4]
     exact round_of hI hS hμ (k+1) (by omega) (by omega) ⟨[0],by simp[hcn,hed,hul]⟩
   · rw[hb,if_neg (by simp)] at hcn hed
     simp[hul,hd,hat,hb,w2]
     exact round_of hI hS hμ (k+1) (by omega) (by omega) ⟨[0],by simp[hcn,hed,hul]⟩
 have hk':k=x.2.2.1.length:=by omega
 rw[hk']
 clear hI hS hμ
 simp[hul]
 refine call_step (hlc) ?_
 simp
 refine call_step (iRoots_con x hx n3) ?_
 simp
 generalize grRoots x=rs at *
 generalize levelsL x cs=lv at *
 refine aw_loopU [false,false,false,false,false,false,false,true,true,true,false,false,true,false,false,false,false,false,false,false,false,false,false,false,false,false,false,false,false,false,false,false,false,false,false,false,false,false,false,true,true,true,false,false,false,false,false,false,false,false,false,false,false,false,false,false] (fun k:Nat=>k≤rs.length) (fun k:Nat=>[(9,.d (.int .i64 (dpK lv rs k))),(41,.d (.int .i64 k))]) (fun k:Nat=>[]) (fun k:Nat=>rs.length - k) 0 ?_ ?_ ?_
 · simp
 · exact⟨[0,1,2],by simp[dpK]⟩
 rintro I S μ hI hS hμ k hk
 by_cases hlt:k<rs.length
 · have hx1:rs[k]? = some rs[k]:=List.getElem?_eq_getElem hlt
   have w2:IntKind.i64.wrap ((k:Int)+1)=(k:Int)+1:=wrap_id (by omega) (by omega)
   have hd:decide (k<rs.length)=true:=decide_eq_true hlt
   have hyr:=hri _ (List.getElem_mem hlt)
   have hnx:=hds k _ hx1
   generalize rs[k]=y at *
   have q1:IntKind.i64.wrap (y.tdiv 2)=y / 2:=by rw[Int.tdiv_eq_ediv_of_nonneg hyr.1];exact wrap_id (by omega) (by omega)
   have hr:=at_read (lv:=lv) (k:=y / 2) (by omega)
   have hm2:=mx_if (dpK lv rs k) (atI lv (y / 2))
   rw[←hnx] at hm2
   simp[hd,hx1,q1,hr,w2,show ¬ y / 2<0 by omega,hm2]
   exact round_of hI hS hμ (k+1) (by omega) (by omega) ⟨[0,1,2],by simp⟩
 · have hk':k=rs.length:=by omega
   subst hk'
   simp[hlt]
end Go.Proofs.Ytakohcpfjkcfdaa
