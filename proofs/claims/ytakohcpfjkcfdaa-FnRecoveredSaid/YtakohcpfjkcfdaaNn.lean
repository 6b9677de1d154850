/-
  Mappings of a graph: the reference's check; what a mapping that is accepted obeys.
  Conditions: those typed in each theorem.
-/
import Derived.Test.YtakohcpfjkcfdaaNo
namespace Go.Proofs.Ytakohcpfjkcfdaa
open Go.RowKit Go.ChangeShapes Go.WideShapes
set_option linter.unusedVariables false
set_option linter.unusedSimpArgs false
attribute [local simp ↓] condG_true condG_false condB_true condB_false
attribute [local simp] AWp_skip AWp_region_t AWp_region_d AWp_region_f still_mk AWp_seq AWp_cond condV_bool condB AWp_block AWp_exit AWp_ret
attribute [local simp] AOps_nil AOp_move AOp_assign AOp_pick AOp_binOp AOp_unOp AOp_convert AOp_len AOp_max AOp_min AOp_indexAddr AOp_load
attribute [local simp] AOp_fieldAddr AOp_field AOp_extract AOp_nilCheck AOp_build AOp_alloc AOp_box AOp_call AOp_store AOp_append AOp_buildSlice nextB_some
attribute [local simp] nextB_none adoptO adoptC AOp_makeSlice AOp_slice AOp_makeFunc AOp_guard guardD_some guardG_bool guardG_undef nextO_some nextS_some
attribute [local simp] nextZ_some nextL_some nextM_some nextT_some sliceO sliceL sliceT partO partV boundV funcO pickO
attribute [local simp] convO lenO maxO minO idxO extO nilO buildO litO litC makeO chunks
attribute [local simp] fillV placeOf thenA inBlockA St.get St.put St.eval ofCell evalT abin_add abin_sub abin_mul
attribute [local simp] abin_quo abin_rem abin_and abin_or abin_xor abin_andNot abin_shl abin_shr abin_shlu abin_eql abin_eqp abin_neq
attribute [local simp] abin_lss abin_leq abin_gtr abin_geq abin_eqlb abin_neqb aun pickV lenV intOf? indexV takeD
attribute [local simp] takeV loadV fieldAddrV fieldV ofX presD presDs pres presAll cellsV V.cell storeV
attribute [local simp] freezeC putAt kill takeC plains plainV scalarV nat_neg keepT sets eSl e1
attribute [local simp] e2 e3 e4 eInt eBool abinS_d abinS_agg abinS nilEq abin_eqb AOp_makeMap AOp_lookup
attribute [local simp] AOp_mapUpdate lookG_some updG_some mapV kyOf vlOf lookV vlV buildA afterCall inst inst1
attribute [local simp] inst1s instD instDs RetA resVs resV gives give1 give1s Le isPin leSlots
attribute [local simp] leS leTmps leV le0 le0s ren ren0 renS ren0s frame enterT afterT_some
attribute [local simp] afterC_some lives Slot.live arrsOk viewV view0 renT rens renSs setAll List.range'_succ RetT
attribute [local simp] RetW joinV leT AOpsE_nil AOpsE_cons AOpsT_nil AOpsT_cons isCallT isFnO callOf callVC_fn condC_true
attribute [local simp] condC_false beginT_mk thenT_mk pickE pickT isT loose namesOf namesV names1 names0 stableN
attribute [local simp] sameAt Op.operands Call.operands
attribute [local simp] mcone_len esc_len
set_option maxRecDepth 100000 in
theorem sMapOk_con (x:GrD) (cs:List RowD) (hx:fitGr 1048576 x) (hg:okGr x) (hc:fitRw 1048576 cs):ConC Try.prog 36 [igr x,irows cs] (.d (.bool (mapOkB x cs))):=by
 refine con_of (by kernel_rfl) Try.func36 rfl rfl rfl ?_
 simp[enGr]
 refine call_step (sNetOk_con x hx hg) ?_
 simp
 rcases Bool.eq_false_or_eq_true (netOkB x) with hok|hok
 case inr=>simp[hok,mapOkB]
 obtain⟨⟨n1,n2,n3,n4,n5,n6⟩,-,-,-⟩:=netOk_of hok
 obtain⟨hF,hgl,hNi,hno⟩:=ok_sizes hok
 by_cases hl:cs.length=x.2.2.1.length
 case neg =>
  have hl':((cs.length:Int) != x.2.2.1.length)=true:=by simp;omega
  have hl2:¬ (cs.length:Int)=x.2.2.1.length:=by omega
  simp[hok,hl',hl2,mapOkB,hl]
 have hN:=grN_eq x
 have hB:mapOkB x cs=mapsB x cs cs.length:=by simp[mapOkB,hok,hl]
 rw[hB]
 simp[hok,hl]
 refine aw_loopU [false,true,true,false,false,true,false,false,false,false,false,false,false,false,false,false,false,false,false,false,false,false,false,false,false,false,false,false,false,false,false,false,false,false,false,false,false,false,false,false,false,false,false,false,false] (fun k:Nat=>k≤cs.length∧mapsB x cs k=true) (fun k:Nat=>[(5,.d (.int .i64 k))]) (fun k:Nat=>[]) (fun k:Nat=>cs.length - k) 0 ?_ ?_ ?_
 · exact⟨by omega,rfl⟩
 · exact⟨[0],by simp⟩
 rintro I S μ hI hS hμ k ⟨hk,hall⟩
 by_cases hlt:k<cs.length
 · have hx1:cs[k]? = some cs[k]:=List.getElem?_eq_getElem hlt
   have w2:IntKind.i64.wrap ((k:Int)+1)=(k:Int)+1:=wrap_id (by omega) (by omega)
   have w3:IntKind.i64.wrap (1+x.1+(x.2.1.length:Int)+(k:Int))=((firstG x+k:Nat):Int):=by rw[wrap_id (by omega) (by omega)];omega
   have hL:(enRow cs[k]).length=1:=rfl
   have hd:decide (k<cs.length)=true:=decide_eq_true (by omega)
   have hcl:=hc.2 _ (List.getElem_mem hlt)
   have hsu:=mapsB_succ (x:=x) hx1
   have hno2:=mapsB_not (x:=x) hx1
   have hmA:mapAtB x cs[k] k=(!hasB cs[k] ((firstG x+k:Nat):Int)&&cutOkB x (firstG x+k) cs[k]):=rfl
   generalize cs[k]=c at *
   have h1:=l13Has_con c ((firstG x+k:Nat):Int) (by omega)
   have h2:=sCutOk_con x (firstG x+k) c hx hg hok (by omega) hcl
   obtain⟨v,hv⟩:∃ v,v=firstG x+k:=⟨_,rfl⟩
   rw[←hv] at w3 h1 h2 hmA
   simp[hd,hx1,hL,enRow]
   refine⟨by kernel_rfl,?_⟩
   refine call_step (sFirst_con x ⟨n1,n2⟩ n3) ?_
   simp[w3,hd,hx1,hL,enRow]
   refine call_step (h2) ?_
   simp
   rcases Bool.eq_false_or_eq_true (cutOkB x v c) with hr2|hr2
   · simp[hr2,hd,hx1,hL,enRow]
     refine call_step (sFirst_con x ⟨n1,n2⟩ n3) ?_
     simp[w3,hd,hx1,hL,enRow]
     refine call_step (h1) ?_
     simp
     rcases Bool.eq_false_or_eq_true (hasB c v) with hr|hr
     · have hz:=hno2 (by rw[hmA,hr];rfl)
       rw[hl] at hz
       simp[hr,hz]
     · simp[hr,w2]
       exact round_of hI hS hμ (k+1) ⟨by omega,by rw[hsu,hall,hmA,hr,hr2];rfl⟩ (by omega) ⟨[0],by simp⟩
   · have hz:=hno2 (by rw[hmA,hr2];simp)
     rw[hl] at hz
     simp[hr2,hz]
 · have hk':k=cs.length:=by omega
   rw[hk',hl] at hall
   simp[show ¬ k<cs.length by omega,hall,hl,show ¬ k<x.2.2.1.length by omega]
theorem marks_in {s:List Bool} {y:Int} (h:hasB (marksI s) y=true):0≤y∧y<s.length:=by
 have hm:=of_decide_eq_true h
 unfold marksI marksL at hm
 obtain⟨a,ha,hv⟩:=List.mem_map.1 hm
 have:=List.mem_range.1 (List.mem_filter.1 ha).1
 omega
theorem mapOk_of {x:GrD} {cs:List RowD} (h:mapOkB x cs=true):netOkB x=true∧cs.length=x.2.2.1.length∧∀ (k:Nat) (c:RowD),cs[k]? = some c→mapAtB x c k=true∧c.length≤4∧∀ y∈c,0≤y∧y<grN x:=by
 simp only[mapOkB,Bool.and_eq_true,decide_eq_true_eq] at h
 obtain⟨⟨h1,h2⟩,h3⟩:=h
 refine⟨h1,h2,fun k c hc=>?_⟩
 have hm:mapAtB x c k=true:=by
  cases hh:mapAtB x c k with
  | true=>rfl
  | false=>rw[mapsB_not hc hh] at h3;cases h3
 have hm2:=hm
 simp only[mapAtB,cutOkB,Bool.and_eq_true,decide_eq_true_eq] at hm2
 refine⟨hm,hm2.2.1.1.1,fun y hy=>?_⟩
 have:=marks_in (List.all_eq_true.1 hm2.2.1.2 y hy)
 rw[coneL_len] at this
 exact this
end Go.Proofs.Ytakohcpfjkcfdaa
