/-
  Parts of forward retiming, by abstract walks: the reference.
  Conditions: those typed in each theorem.
-/
import Derived.Test.YtnjedabjbeipeaaUa
import Derived.Test.YtnjedabjbeipeaaRr
import Derived.Test.YtnjedabjbeipeaaRd
namespace Go.Proofs.Ytnjedabjbeipeaa
open Go.RowKit Go.ChangeShapes Go.WideShapes
set_option linter.unusedVariables false
set_option linter.unusedSimpArgs false
attribute [local simp ↓] condG_true condG_false condB_true condB_false
attribute [local simp] AWp_skip AWp_region_t AWp_region_d AWp_region_f still_mk AWp_seq AWp_cond condV_bool condB AWp_block AWp_exit AWp_ret
attribute [local simp] AOps_nil AOp_move AOp_assign AOp_pick AOp_binOp AOp_unOp AOp_convert AOp_len AOp_max AOp_min AOp_indexAddr AOp_load
attribute [local simp] AOp_fieldAddr AOp_field AOp_extract AOp_nilCheck AOp_build AOp_alloc AOp_box AOp_call AOp_store AOp_append AOp_buildSlice nextB_some
attribute [local simp] nextB_none adoptO adoptC AOp_makeSlice AOp_slice AOp_makeFunc AOp_guard guardD_some guardG_bool guardG_undef nextO_some nextS_some
attribute [local simp] nextZ_some nextL_some nextM_some nextT_some sliceO sliceL sliceT partO partV boundV funcO pickO
attribute [local simp] convO lenO maxO minO idxO extO nilO buildO litO litC makeO chunks
attribute [local simp] fillV placeOf thenA inBlockA St.get St.put St.eval ofCell evalT abin_add abin_sub abin_mul
attribute [local simp] abin_quo abin_rem abin_and abin_or abin_xor abin_andNot abin_shl abin_shr abin_shlu abin_eql abin_eqp abin_neq
attribute [local simp] abin_lss abin_leq abin_gtr abin_geq abin_eqlb abin_neqb aun pickV lenV intOf? indexV takeD
attribute [local simp] takeV loadV fieldAddrV fieldV ofX presD presDs pres presAll cellsV V.cell storeV
attribute [local simp] freezeC putAt kill takeC plains plainV scalarV nat_neg keepT sets eSl e1
attribute [local simp] e2 e3 e4 eInt eBool abinS_d abinS_agg abinS nilEq abin_eqb AOp_makeMap AOp_lookup
attribute [local simp] AOp_mapUpdate lookG_some updG_some mapV kyOf vlOf lookV vlV buildA afterCall inst inst1
attribute [local simp] inst1s instD instDs RetA resVs resV gives give1 give1s Le isPin leSlots
attribute [local simp] leS leTmps leV le0 le0s ren ren0 renS ren0s frame enterT afterT_some
attribute [local simp] afterC_some lives Slot.live arrsOk viewV view0 renT rens renSs setAll List.range'_succ RetT
attribute [local simp] RetW joinV leT AOpsE_nil AOpsE_cons AOpsT_nil AOpsT_cons isCallT isFnO callOf callVC_fn condC_true
attribute [local simp] condC_false beginT_mk beginX_mk AOpsX_zero thenT_mk pickE pickT isT loose namesOf namesV names1
attribute [local simp] names0 stableN sameAt Op.operands Call.operands
set_option maxRecDepth 100000 in
theorem sFlop_con (x:GrD) (l:Int) (h1:0≤x.1∧x.1≤20) (h2:x.2.1.length≤12) (hl:0≤l∧l≤1048576):ConC Try.prog 136 [igr x,.d (.int .i64 l)] (.d (.int .i64 (flopL x l))):=by
 have hB:flopL x l=if 0≤l / 2 - 1 - x.1∧l / 2 - 1 - x.1<x.2.1.length∧(seqAt x (l / 2 - 1 - x.1).toNat).1=0 then l / 2 - 1 - x.1 else -1:=rfl
 have w1:IntKind.i64.wrap (l.tdiv 2)=l / 2:=by rw[Int.tdiv_eq_ediv_of_nonneg hl.1];exact wrap_id (by omega) (by omega)
 have w2:IntKind.i64.wrap (l / 2 - 1)=l / 2 - 1:=wrap_id (by omega) (by omega)
 obtain⟨q,hq⟩:∃ q,q=l / 2 - 1 - x.1:=⟨_,rfl⟩
 have w3:IntKind.i64.wrap (l / 2 - 1 - x.1)=q:=by rw[wrap_id (by omega) (by omega),hq]
 rw[←hq] at hB
 generalize flopL x l=R at *
 have hsq:∀ k:Nat,k<x.2.1.length→x.2.1[k]? = some (seqAt x k):=fun k hk=>(seqAt_mem hk).1
 refine con_of (by kernel_rfl) Try.func136 rfl rfl rfl ?_
 simp[enGr,w1,w2,w3]
 by_cases c1:0≤q
 · by_cases c2:q<x.2.1.length
   · have hx1:=hsq q.toNat (by omega)
     have hL:(enSeq (seqAt x q.toNat)).length=3:=rfl
     generalize seqAt x q.toNat=s at *
     by_cases c3:s.1=0
     · rw[if_pos ⟨c1,c2,c3⟩] at hB
       have hne:(s.1 != 0)=false:=by simp[c3]
       simp[show ¬ q<0 by omega,decide_eq_false (show ¬ q<0 by omega),show ¬ (x.2.1.length:Int)≤q by omega,decide_eq_false (show ¬ (x.2.1.length:Int)≤q by omega),hx1,hL,enSeq,hne,hB,c3]
     · rw[if_neg (fun h=>c3 h.2.2)] at hB
       have hne:(s.1 != 0)=true:=by simp[c3]
       simp[show ¬ q<0 by omega,decide_eq_false (show ¬ q<0 by omega),show ¬ (x.2.1.length:Int)≤q by omega,decide_eq_false (show ¬ (x.2.1.length:Int)≤q by omega),hx1,hL,enSeq,hne,hB,c3]
   · rw[if_neg (fun h=>c2 h.2.1)] at hB
     simp[show ¬ q<0 by omega,decide_eq_false (show ¬ q<0 by omega),show (x.2.1.length:Int)≤q by omega,decide_eq_true (show (x.2.1.length:Int)≤q by omega),hB]
 · rw[if_neg (fun h=>c1 h.1)] at hB
   simp[show q<0 by omega,decide_eq_true (show q<0 by omega),hB]
def zmS (sq:List SeqD) (i:Nat):List SeqD:=(sq.take i).map zeroSeq++sq.drop i
theorem zmS_at {sq:List SeqD} {s:SeqD} {i:Nat} (h:sq[i]? = some s):(zmS sq i)[i]? = some s:=by
 have hi:=(List.getElem?_eq_some_iff.1 h).1
 unfold zmS
 rw[List.getElem?_append_right (by simp;omega)]
 simp only[List.length_map,List.length_take]
 rw[List.getElem?_drop,show i+(i - min i sq.length)=i by omega,h]
theorem zmS_set {sq:List SeqD} {s:SeqD} {i:Nat} (h:sq[i]? = some s):(zmS sq i).set i (zeroSeq s)=zmS sq (i+1):=by
 obtain⟨hi,e⟩:=List.getElem?_eq_some_iff.1 h
 unfold zmS
 rw[List.set_append_right _ _ (by simp;omega),take_snoc' h,List.map_append,List.append_assoc]
 congr 1
 rw[List.length_map,List.length_take,show i - min i sq.length=0 by omega,List.drop_eq_getElem_cons hi,e]
 rfl
theorem zmS_len {sq:List SeqD} {i:Nat}:(zmS sq i).length=sq.length:=by unfold zmS;simp;omega
theorem zmS_all {sq:List SeqD}:zmS sq sq.length=sq.map zeroSeq:=by unfold zmS;simp
theorem zmS_zero {sq:List SeqD}:zmS sq 0=sq:=by unfold zmS;simp
set_option maxRecDepth 100000 in
set_option maxHeartbeats 2000000 in
theorem l10Empty_con (x:GrD) (hx:fitGr 1048576 x) (h1:0≤x.1∧x.1≤20) (h2:x.2.1.length≤12):ConC Try.prog 167 [igr x] (.tup [igr ((x.1,x.2.1.map zeroSeq,[],[]):GrD),ints (leafL (firstG x))]):=by
 obtain⟨f1,f2,f3,f4⟩:=hx
 have hF:(firstG x:Int)=1+x.1+x.2.1.length:=by unfold firstG;omega
 refine con_ofD (by kernel_rfl) Try.func167 rfl rfl rfl ?_
 simp[enGr]
 refine drawD_of 7 (by kernel_rfl) ?_
 simp[enGr]
 refine call_step (l08CopySeqs_con x.2.1 f1 f2) ?_
 simp[enGr]
 refine aw_loopU [false,true,true,false,true,true,true,false,false,false,false,false,false,false,false,false,false,false,false,false,false,false,false,false,false,false,false,false,false,false,false,false,false,false,false,false,false,false,false,false,false,false,false,false,false,false,false,false] (fun i:Nat=>i≤firstG x) (fun i:Nat=>[(6,.d (.int .i64 i))]) (fun i:Nat=>[(4,.arr 3 true ((leafL i).map (e1 eInt)))]) (fun i:Nat=>firstG x - i) 0 ?_ ?_ ?_
 · exact Nat.zero_le _
 · exact⟨[0,1,2,3,4],by simp[leafL]⟩
 rintro I S μ hI hS hμ i hi
 by_cases hlt:i<firstG x
 · have w1:IntKind.i64.wrap ((i:Int)+1)=(i:Int)+1:=wrap_id (by omega) (by omega)
   have w2:IntKind.i64.wrap (2*(i:Int))=2*(i:Int):=wrap_id (by omega) (by omega)
   have hll:=leafL_len (n:=i)
   have hsn:=leafL_snoc (n:=i)
   generalize leafL i=p at *
   simp[enGr]
   refine call_step (sFirst_con x h1 h2) ?_
   simp[enGr,show (i:Int)<1+x.1+x.2.1.length by omega,w2]
   refine app_data vt_el_26 rfl (by simp) rfl (by simp) (by simp) (by first | (simp;done)|(simp;omega)) (by simp[flatP,flatD]) ?_
   simp[w1]
   exact round_of hI hS hμ (i+1) (by omega) (by omega) ⟨[0,1,2,3,6],by simp[hsn,e1,eInt]⟩
 obtain rfl:i=firstG x:=by omega
 clear hI hS hμ
 simp[enGr]
 refine call_step (sFirst_con x h1 h2) ?_
 simp[enGr,show ¬ ((firstG x:Nat):Int)<1+x.1+x.2.1.length by omega]
 generalize leafL (firstG x)=p at *
 refine aw_loopU [false,false,true,false,true,true,false,true,false,false,false,false,false,false,false,false,false,false,false,false,false,false,false,false,false,false,false,false,false,false,false,false,false,false,false,false,false,false,false,false,false,false,false,false,false,false,false,false] (fun i:Nat=>i≤x.2.1.length) (fun i:Nat=>[(7,.d (.int .i64 i))]) (fun i:Nat=>[(2,.arr 31 true ((zmS x.2.1 i).map enSeq))]) (fun i:Nat=>x.2.1.length - i) 0 ?_ ?_ ?_
 · exact Nat.zero_le _
 · exact⟨[0,1,2,3,4],by simp[zmS_zero]⟩
 rintro I S μ hI hS hμ i hi
 have hzl:=zmS_len (sq:=x.2.1) (i:=i)
 by_cases hlt:i<x.2.1.length
 · obtain⟨s,hx1⟩:∃ s,x.2.1[i]? = some s:=⟨_,List.getElem?_eq_getElem hlt⟩
   have hat:=zmS_at hx1
   have hset:=zmS_set hx1
   have hf:=f2 _ (List.mem_of_getElem? hx1)
   have hL:(enSeq s).length=3:=rfl
   have w1:IntKind.i64.wrap ((i:Int)+1)=(i:Int)+1:=wrap_id (by omega) (by omega)
   have hse:((zmS x.2.1 i).map enSeq).set i [D.int .i64 s.1,D.int .i64 s.2.1,D.sl 3 (List.replicate s.2.2.length [D.int .i64 0])]=(zmS x.2.1 (i+1)).map enSeq:=by
    rw[←hset,List.map_set]
    simp[enSeq,e3,eInt,eSl,e1,zeroSeq,List.map_const']
   generalize hz2:zmS x.2.1 (i+1)=z2 at *
   generalize zmS x.2.1 i=z1 at *
   clear hset
   simp[decide_eq_true hlt,hzl]
   refine drawD_of 11 (by kernel_rfl) ?_
   simp[hat,hL,enSeq,hzl]
   simp[hse,w1]
   refine⟨by omega,?_⟩
   exact round_of hI hS hμ (i+1) (by omega) (by omega) ⟨[0,1,2,3,4],by simp[hz2]⟩
 · obtain rfl:i=x.2.1.length:=by omega
   rw[zmS_all]
   simp[hlt,decide_eq_false hlt,enGr]
def begS (is:List Int):List SeqD:=is.map fun i=>(0,i,[0])
theorem begS_snoc {is:List Int} {i:Int}:begS (is++[i])=begS is++[(0,i,[0])]:=by simp[begS]
set_option maxRecDepth 100000 in
set_option maxHeartbeats 2000000 in
theorem l15Begin_con (x:GrD) (is:List Int) (hx:fitGr 1048576 x) (h1:0≤x.1∧x.1≤20) (h2:x.2.1.length≤12) (hi:is.length≤1000):ConC Try.prog 157 [igr x,ints is] (.tup [igr ((x.1,x.2.1.map zeroSeq++begS is,[],[]):GrD),ints (leafL (firstG x))]):=by
 have ke:=l10Empty_con x hx h1 h2
 have hzl:(x.2.1.map zeroSeq).length=x.2.1.length:=by simp
 refine con_ofD (by kernel_rfl) Try.func157 rfl rfl rfl ?_
 simp[enGr]
 generalize leafL (firstG x)=p at *
 generalize x.2.1.map zeroSeq=zs at *
 refine call_step (ke) ?_
 simp[enGr]
 refine aw_loopU [false,true,false,false,true,false,true,true,true,false,false,false,false,false,false,false,false,false,false,false,false,false,false,false,false,false,false,false,false,false,false,false,false] (fun i:Nat=>i≤is.length) (fun i:Nat=>[(8,.d (.int .i64 i))]) (fun i:Nat=>[(2,.arr 31 true ((zs++begS (is.take i)).map enSeq))]) (fun i:Nat=>is.length - i) 0 ?_ ?_ ?_
 · exact Nat.zero_le _
 · exact⟨[0,1,2,3,4,5,6],by simp[begS]⟩
 rintro I S μ hI hS hμ i hi
 by_cases hlt:i<is.length
 · obtain⟨y,hx1⟩:∃ y,is[i]? = some y:=⟨_,List.getElem?_eq_getElem hlt⟩
   have hnx:=congrArg begS (take_snoc' hx1)
   rw[begS_snoc] at hnx
   have hbl:(begS (is.take i)).length=i:=by simp[begS];omega
   have w1:IntKind.i64.wrap ((i:Int)+1)=(i:Int)+1:=wrap_id (by omega) (by omega)
   generalize begS (is.take i)=ms at *
   simp[decide_eq_true hlt]
   refine drawD_of 9 (by kernel_rfl) ?_
   simp[hx1]
   first | refine app_lit (q:=1) vt_el_24 (by exact rfl) (by simp) (by exact rfl) (by exact rfl) (by simp) (by simp) (by first | (simp;done)|(simp;omega)) ?_|refine app_row vt_el_24 (by exact rfl) (by simp) (by exact rfl) (by simp) (by first | (simp;done)|(simp;omega)) ?_
   simp[w1]
   exact round_of hI hS hμ (i+1) (by omega) (by omega) ⟨[0,1,9,3,4,5,6],by simp[hnx,enSeq,e3,eInt,eSl,e1]⟩
 · obtain rfl:i=is.length:=by omega
   rw[List.take_length]
   simp[hlt,decide_eq_false hlt,enGr]
end Go.Proofs.Ytnjedabjbeipeaa
