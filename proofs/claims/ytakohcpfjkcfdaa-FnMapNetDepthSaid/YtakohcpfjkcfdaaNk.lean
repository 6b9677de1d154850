/-
  Cuts and mappings of a graph, by abstract walks: both sides.
  Conditions: those typed in each theorem.
-/
import Derived.Test.YtakohcpfjkcfdaaNj
namespace Go.Proofs.Ytakohcpfjkcfdaa
open Go.RowKit Go.ChangeShapes Go.WideShapes
set_option linter.unusedVariables false
set_option linter.unusedSimpArgs false
attribute [local simp ↓] condG_true condG_false condB_true condB_false
attribute [local simp] AWp_skip AWp_region_t AWp_region_d AWp_region_f still_mk AWp_seq AWp_cond condV_bool condB AWp_block AWp_exit AWp_ret
attribute [local simp] AOps_nil AOp_move AOp_assign AOp_pick AOp_binOp AOp_unOp AOp_convert AOp_len AOp_max AOp_min AOp_indexAddr AOp_load
attribute [local simp] AOp_fieldAddr AOp_field AOp_extract AOp_nilCheck AOp_build AOp_alloc AOp_box AOp_call AOp_store AOp_append AOp_buildSlice nextB_some
attribute [local simp] nextB_none adoptO adoptC AOp_makeSlice AOp_slice AOp_makeFunc AOp_guard guardD_some guardG_bool guardG_undef nextO_some nextS_some
attribute [local simp] nextZ_some nextL_some nextM_some nextT_some sliceO sliceL sliceT partO partV boundV funcO pickO
attribute [local simp] convO lenO maxO minO idxO extO nilO buildO litO litC makeO chunks
attribute [local simp] fillV placeOf thenA inBlockA St.get St.put St.eval ofCell evalT abin_add abin_sub abin_mul
attribute [local simp] abin_quo abin_rem abin_and abin_or abin_xor abin_andNot abin_shl abin_shr abin_shlu abin_eql abin_eqp abin_neq
attribute [local simp] abin_lss abin_leq abin_gtr abin_geq abin_eqlb abin_neqb aun pickV lenV intOf? indexV takeD
attribute [local simp] takeV loadV fieldAddrV fieldV ofX presD presDs pres presAll cellsV V.cell storeV
attribute [local simp] freezeC putAt kill takeC plains plainV scalarV nat_neg keepT sets eSl e1
attribute [local simp] e2 e3 e4 eInt eBool abinS_d abinS_agg abinS nilEq abin_eqb AOp_makeMap AOp_lookup
attribute [local simp] AOp_mapUpdate lookG_some updG_some mapV kyOf vlOf lookV vlV buildA afterCall inst inst1
attribute [local simp] inst1s instD instDs RetA resVs resV gives give1 give1s Le isPin leSlots
attribute [local simp] leS leTmps leV le0 le0s ren ren0 renS ren0s frame enterT afterT_some
attribute [local simp] afterC_some lives Slot.live arrsOk viewV view0 renT rens renSs setAll List.range'_succ RetT
attribute [local simp] RetW joinV leT AOpsE_nil AOpsE_cons AOpsT_nil AOpsT_cons isCallT isFnO callOf callVC_fn condC_true
attribute [local simp] condC_false beginT_mk thenT_mk pickE pickT isT loose namesOf namesV names1 names0 stableN
attribute [local simp] sameAt Op.operands Call.operands
attribute [local simp] mcone_len esc_len
def allB (ms cut:List Int):Bool:=cut.all fun y=>hasB ms y
def cutOkB (x:GrD) (v:Nat) (cut:List Int):Bool:=decide (cut.length≤4)&&ascB cut&&allB (marksI (coneL x v)) cut&&!(escG x cut (v+1) v (List.replicate (grN x) false)).1
theorem ok_sizes {x:GrD} (hok:netOkB x=true):(firstG x:Int)=1+x.1+x.2.1.length∧grN x≤400∧(1+x.1+(x.2.1.length:Int)+(x.2.2.1.length:Int))=grN x∧nodesG x=grN x:=by
 obtain⟨⟨n1,n2,n3,n4,n5,n6⟩,-,-,-⟩:=netOk_of hok
 have hN:=grN_eq x
 unfold firstG at hN
 refine⟨by unfold firstG;omega,by omega,by omega,by omega⟩
theorem rep_bools {n:Nat}:List.replicate n [D.bool false]=(List.replicate n false).map (e1 eBool):=by rw[List.map_replicate];rfl
set_option maxRecDepth 100000 in
theorem cutOk_con (x:GrD) (v:Nat) (cut:List Int) (hx:fitGr 1048576 x) (hok:netOkB x=true) (hv:v<grN x) (hc:cut.length≤1048576):ConC Try.prog 35 [igr x,.d (.int .i64 v),ints cut] (.d (.bool (cutOkB x v cut))):=by
 obtain⟨⟨n1,n2,n3,n4,n5,n6⟩,-,-,-⟩:=netOk_of hok
 obtain⟨hF,hgl,hNi,hno⟩:=ok_sizes hok
 refine con_ofD (by kernel_rfl) Try.func35 rfl rfl rfl ?_
 by_cases h4:cut.length≤4
 case neg=>simp[cutOkB,h4,show (4:Int)<cut.length by omega,show ¬ (cut.length:Int)≤4 by omega]
 simp[enGr,show ¬ (4:Int)<cut.length by omega,show (cut.length:Int)≤4 by omega]
 refine call_step (iAsc_con cut (by omega)) ?_
 simp
 rcases Bool.eq_false_or_eq_true (ascB cut) with ha|ha
 case inr=>simp[ha,cutOkB]
 simp[ha]
 refine call_step (cone_con x v hx hok hv) ?_
 simp
 have hml:(marksI (coneL x v)).length≤1048576:=by
  have:=marksL_len (s:=coneL x v) (k:=(coneL x v).length)
  unfold marksI
  rw[coneL_len] at *
  omega
 have hB:cutOkB x v cut=(allB (marksI (coneL x v)) cut&&!(escG x cut (v+1) v (List.replicate (grN x) false)).1):=by simp[cutOkB,h4,ha]
 rw[hB]
 generalize marksI (coneL x v)=ms at *
 refine aw_loopU [false,true,true,true,false,false,false,true,false,false,false,false,false,false,false,false,false,false,false,false,false,true,true,true,false,false,false,false,false,false,false,false,false,false,false,false,false,false,false,false] (fun k:Nat=>k≤cut.length∧allB ms (cut.take k)=true) (fun k:Nat=>[(23,.d (.int .i64 k))]) (fun k:Nat=>[]) (fun k:Nat=>cut.length - k) 0 ?_ ?_ ?_
 · simp[allB]
 · exact⟨[0,1],by simp⟩
 rintro I S μ hI hS hμ k ⟨hk,hall⟩
 by_cases hlt:k<cut.length
 · have hx1:cut[k]? = some cut[k]:=List.getElem?_eq_getElem hlt
   have w2:IntKind.i64.wrap ((k:Int)+1)=(k:Int)+1:=wrap_id (by omega) (by omega)
   have hd:decide (k<cut.length)=true:=decide_eq_true hlt
   generalize cut[k]=y at *
   simp[hd,hx1]
   refine call_step (hasInt_con ms y (by omega)) ?_
   simp
   rcases Bool.eq_false_or_eq_true (hasB ms y) with hr|hr
   · simp[hr,w2]
     exact round_of hI hS hμ (k+1) ⟨by omega,by unfold allB at *;rw[all_snoc' hx1,hall];simp[hr]⟩ (by omega) ⟨[0,1],by simp⟩
   · have hz:allB ms cut=false:=all_not' (p:=fun y=>hasB ms y) hx1 hr
     simp[hr,hz]
 · have hk':k=cut.length:=by omega
   rw[hk',List.take_length] at hall
   have he:=escapes_conT x cut hx hok hc (v+1) v (List.replicate (grN x) false) (by omega) hv (by simp)
   generalize escG x cut (v+1) v (List.replicate (grN x) false)=p at *
   rw[←rep_bools] at he
   simp[hlt,show ¬ k<cut.length by omega]
   refine drawD_of 6 (by kernel_rfl) ?_
   simp
   refine call_step (iNodeCnt_con x ⟨n1,n2⟩ n3 n4) ?_
   simp[hNi]
   refine⟨by omega,?_⟩
   refine callT_step (he) [] [2] (by simp) ?_
   simp[hall]
def mapAtB (x:GrD) (c:List Int) (i:Nat):Bool:=!hasB c ((firstG x+i:Nat):Int)&&cutOkB x (firstG x+i) c
def mapsB (x:GrD) (cs:List RowD) (k:Nat):Bool:=(List.range k).all fun i=>mapAtB x ((cs[i]?).getD []) i
def mapOkB (x:GrD) (cs:List RowD):Bool:=netOkB x&&decide (cs.length=x.2.2.1.length)&&mapsB x cs cs.length
theorem mapsB_succ {x:GrD} {cs:List RowD} {k:Nat} {c:RowD} (hc:cs[k]? = some c):mapsB x cs (k+1)=(mapsB x cs k&&mapAtB x c k):=by
 unfold mapsB
 rw[List.range_succ,List.all_append]
 simp[hc]
theorem mapsB_not {x:GrD} {cs:List RowD} {k:Nat} {c:RowD} (hc:cs[k]? = some c) (h:mapAtB x c k=false):mapsB x cs cs.length=false:=by
 unfold mapsB
 rw[Bool.eq_false_iff,ne_eq,List.all_eq_true]
 intro hh
 have:=hh k (List.mem_range.2 (List.getElem?_eq_some_iff.1 hc).1)
 rw[hc] at this
 simp only[Option.getD_some] at this
 rw[h] at this
 cases this
set_option maxRecDepth 100000 in
theorem iMapOk_con (x:GrD) (cs:List RowD) (hx:fitGr 1048576 x) (hc:fitRw 1048576 cs):ConC Try.prog 14 [igr x,irows cs] (.d (.bool (mapOkB x cs))):=by
 refine con_of (by kernel_rfl) Try.func14 rfl rfl rfl ?_
 simp[enGr]
 refine call_step (iNetOk_con x hx) ?_
 simp
 rcases Bool.eq_false_or_eq_true (netOkB x) with hok|hok
 case inr=>simp[hok,mapOkB]
 obtain⟨⟨n1,n2,n3,n4,n5,n6⟩,-,-,-⟩:=netOk_of hok
 obtain⟨hF,hgl,hNi,hno⟩:=ok_sizes hok
 by_cases hl:cs.length=x.2.2.1.length
 case neg =>
  have hl':((cs.length:Int) != x.2.2.1.length)=true:=by simp;omega
  have hl2:¬ (cs.length:Int)=x.2.2.1.length:=by omega
  simp[hok,hl',hl2,mapOkB,hl]
 have hN:=grN_eq x
 have hB:mapOkB x cs=mapsB x cs cs.length:=by simp[mapOkB,hok,hl]
 rw[hB]
 simp[hok,hl]
 refine aw_loopU [false,false,true,false,false,false,false,false,false,false,false,false,false,false,false,false,false,false,false,true,true,true,false,false,false,false,false,false,false,false,false,false,false,false,false,false,false,false,false,false,false] (fun k:Nat=>k≤cs.length∧mapsB x cs k=true) (fun k:Nat=>[(21,.d (.int .i64 k))]) (fun k:Nat=>[]) (fun k:Nat=>cs.length - k) 0 ?_ ?_ ?_
 · exact⟨by omega,rfl⟩
 · exact⟨[0],by simp⟩
 rintro I S μ hI hS hμ k ⟨hk,hall⟩
 by_cases hlt:k<cs.length
 · have hx1:cs[k]? = some cs[k]:=List.getElem?_eq_getElem hlt
   have w2:IntKind.i64.wrap ((k:Int)+1)=(k:Int)+1:=wrap_id (by omega) (by omega)
   have w3:IntKind.i64.wrap (1+x.1+(x.2.1.length:Int)+(k:Int))=((firstG x+k:Nat):Int):=by rw[wrap_id (by omega) (by omega)];omega
   have hL:(enRow cs[k]).length=1:=rfl
   have hd:decide (k<x.2.2.1.length)=true:=decide_eq_true (by omega)
   have hcl:=hc.2 _ (List.getElem_mem hlt)
   have hsu:=mapsB_succ (x:=x) hx1
   have hno:=mapsB_not (x:=x) hx1
   have hmA:mapAtB x cs[k] k=(!hasB cs[k] ((firstG x+k:Nat):Int)&&cutOkB x (firstG x+k) cs[k]):=rfl
   generalize cs[k]=c at *
   have h1:=hasInt_con c ((firstG x+k:Nat):Int) (by omega)
   have h2:=cutOk_con x (firstG x+k) c hx hok (by omega) hcl
   obtain⟨v,hv⟩:∃ v,v=firstG x+k:=⟨_,rfl⟩
   rw[←hv] at w3 h1 h2 hmA
   simp[hd,hx1,hL,enRow]
   refine call_step (firstAnd_con x ⟨n1,n2⟩ n3) ?_
   simp[w3]
   refine call_step (h1) ?_
   simp
   rcases Bool.eq_false_or_eq_true (hasB c v) with hr|hr
   · have hz:=hno (by rw[hmA,hr];rfl)
     rw[hl] at hz
     simp[hr,hz]
   simp[hr]
   refine call_step (h2) ?_
   simp
   rcases Bool.eq_false_or_eq_true (cutOkB x v c) with hr2|hr2
   · simp[hr2,w2]
     exact round_of hI hS hμ (k+1) ⟨by omega,by rw[hsu,hall,hmA,hr,hr2];rfl⟩ (by omega) ⟨[0],by simp⟩
   · have hz:=hno (by rw[hmA,hr2];simp)
     rw[hl] at hz
     simp[hr2,hz]
 · have hk':k=cs.length:=by omega
   rw[hk',hl] at hall
   simp[show ¬ k<x.2.2.1.length by omega,hall]
end Go.Proofs.Ytakohcpfjkcfdaa
