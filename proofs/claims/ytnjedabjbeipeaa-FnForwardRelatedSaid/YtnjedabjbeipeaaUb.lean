/-
  Parts of forward retiming, by abstract walks: the program.
  Conditions: those typed in each theorem.
-/
import Derived.Test.YtnjedabjbeipeaaUa
import Derived.Test.YtnjedabjbeipeaaRk
import Derived.Test.YtnjedabjbeipeaaRf
import Derived.Test.YtnjedabjbeipeaaRr
import Derived.Test.YtnjedabjbeipeaaDc
namespace Go.Proofs.Ytnjedabjbeipeaa
open Go.RowKit Go.ChangeShapes Go.WideShapes
set_option linter.unusedVariables false
set_option linter.unusedSimpArgs false
attribute [local simp ↓] condG_true condG_false condB_true condB_false
attribute [local simp] AWp_skip AWp_region_t AWp_region_d AWp_region_f still_mk AWp_seq AWp_cond condV_bool condB AWp_block AWp_exit AWp_ret
attribute [local simp] AOps_nil AOp_move AOp_assign AOp_pick AOp_binOp AOp_unOp AOp_convert AOp_len AOp_max AOp_min AOp_indexAddr AOp_load
attribute [local simp] AOp_fieldAddr AOp_field AOp_extract AOp_nilCheck AOp_build AOp_alloc AOp_box AOp_call AOp_store AOp_append AOp_buildSlice nextB_some
attribute [local simp] nextB_none adoptO adoptC AOp_makeSlice AOp_slice AOp_makeFunc AOp_guard guardD_some guardG_bool guardG_undef nextO_some nextS_some
attribute [local simp] nextZ_some nextL_some nextM_some nextT_some sliceO sliceL sliceT partO partV boundV funcO pickO
attribute [local simp] convO lenO maxO minO idxO extO nilO buildO litO litC makeO chunks
attribute [local simp] fillV placeOf thenA inBlockA St.get St.put St.eval ofCell evalT abin_add abin_sub abin_mul
attribute [local simp] abin_quo abin_rem abin_and abin_or abin_xor abin_andNot abin_shl abin_shr abin_shlu abin_eql abin_eqp abin_neq
attribute [local simp] abin_lss abin_leq abin_gtr abin_geq abin_eqlb abin_neqb aun pickV lenV intOf? indexV takeD
attribute [local simp] takeV loadV fieldAddrV fieldV ofX presD presDs pres presAll cellsV V.cell storeV
attribute [local simp] freezeC putAt kill takeC plains plainV scalarV nat_neg keepT sets eSl e1
attribute [local simp] e2 e3 e4 eInt eBool abinS_d abinS_agg abinS nilEq abin_eqb AOp_makeMap AOp_lookup
attribute [local simp] AOp_mapUpdate lookG_some updG_some mapV kyOf vlOf lookV vlV buildA afterCall inst inst1
attribute [local simp] inst1s instD instDs RetA resVs resV gives give1 give1s Le isPin leSlots
attribute [local simp] leS leTmps leV le0 le0s ren ren0 renS ren0s frame enterT afterT_some
attribute [local simp] afterC_some lives Slot.live arrsOk viewV view0 renT rens renSs setAll List.range'_succ RetT
attribute [local simp] RetW joinV leT AOpsE_nil AOpsE_cons AOpsT_nil AOpsT_cons isCallT isFnO callOf callVC_fn condC_true
attribute [local simp] condC_false beginT_mk beginX_mk AOpsX_zero thenT_mk pickE pickT isT loose namesOf namesV names1
attribute [local simp] names0 stableN sameAt Op.operands Call.operands
def nilQ (k s:Nat):V:=if k=0 then .nil 31 else .ref s
def nilQs (k:Nat) (xs:List SeqD) (sl:List Slot):List Slot:=if k=0 then sl else sl++[.arr 31 true (xs.map enSeq)]
set_option maxRecDepth 100000 in
theorem flopOf_con (x:GrD) (l:Int) (h1:0≤x.1∧x.1≤20) (h2:x.2.1.length≤12) (hl:0≤l∧l≤1048576):ConC Try.prog 36 [igr x,.d (.int .i64 l)] (.d (.int .i64 (flopL x l))):=by
 have hB:flopL x l=if 0≤l / 2 - 1 - x.1∧l / 2 - 1 - x.1<x.2.1.length∧(seqAt x (l / 2 - 1 - x.1).toNat).1=0 then l / 2 - 1 - x.1 else -1:=rfl
 have w1:IntKind.i64.wrap (l.tdiv 2)=l / 2:=by rw[Int.tdiv_eq_ediv_of_nonneg hl.1];exact wrap_id (by omega) (by omega)
 have w2:IntKind.i64.wrap (l / 2 - (1+x.1))=l / 2 - 1 - x.1:=by rw[wrap_id (by omega) (by omega)];omega
 generalize flopL x l=R at *
 have hsq:∀ k:Nat,k<x.2.1.length→x.2.1[k]? = some (seqAt x k):=fun k hk=>(seqAt_mem hk).1
 generalize l / 2 - 1 - x.1=q at *
 refine con_of (by kernel_rfl) Try.func36 rfl rfl rfl ?_
 simp[enGr]
 refine call_step (firstSeq_con x h1) ?_
 simp[enGr,w1,w2]
 by_cases c1:0≤q
 · by_cases c2:q<x.2.1.length
   · have hx1:=hsq q.toNat (by omega)
     have hL:(enSeq (seqAt x q.toNat)).length=3:=rfl
     generalize seqAt x q.toNat=s at *
     by_cases c3:s.1=0
     · rw[if_pos ⟨c1,c2,c3⟩] at hB
       have hne:(s.1 != 0)=false:=by simp[c3]
       simp[show ¬ q<0 by omega,decide_eq_false (show ¬ q<0 by omega),show ¬ (x.2.1.length:Int)≤q by omega,decide_eq_false (show ¬ (x.2.1.length:Int)≤q by omega),hx1,hL,enSeq,hne,hB,c3]
     · rw[if_neg (fun h=>c3 h.2.2)] at hB
       have hne:(s.1 != 0)=true:=by simp[c3]
       simp[show ¬ q<0 by omega,decide_eq_false (show ¬ q<0 by omega),show ¬ (x.2.1.length:Int)≤q by omega,decide_eq_false (show ¬ (x.2.1.length:Int)≤q by omega),hx1,hL,enSeq,hne,hB,c3]
   · rw[if_neg (fun h=>c2 h.2.1)] at hB
     simp[show ¬ q<0 by omega,decide_eq_false (show ¬ q<0 by omega),show (x.2.1.length:Int)≤q by omega,decide_eq_true (show (x.2.1.length:Int)≤q by omega),hB]
 · rw[if_neg (fun h=>c1 h.1)] at hB
   simp[show q<0 by omega,decide_eq_true (show q<0 by omega),hB]
set_option maxRecDepth 100000 in
theorem iCopySeqs_con (sq:List SeqD) (h1:sq.length≤1048576) (h2:∀ s∈sq,s.2.2.length≤1048576):ConC Try.prog 80 [.d (eSl 31 enSeq sq)] (.d (eSl 31 enSeq sq)):=by
 refine con_of (by kernel_rfl) Try.func80 rfl rfl rfl ?_
 simp
 refine aw_loopN [false,false,false,true,false,false,true,true,true,false,false,false,false,false,false,false,false,false,false,false,false,false,false,false,false] (fun i:Nat=>i≤sq.length) (fun i:Nat=>[(3,nilQ i 0),(8,.d (.int .i64 i))]) (fun i:Nat=>nilQs i (sq.take i)) (fun i:Nat=>sq.length - i) 0 ?_ ?_ ?_
 · simp
 · exact⟨[],by simp[nilQ,nilQs]⟩
 rintro I S μ hI hS hμ i hi
 by_cases hlt:i<sq.length
 · obtain⟨s,hx1⟩:∃ s,sq[i]? = some s:=⟨_,List.getElem?_eq_getElem hlt⟩
   have hx2:∀ h:i<sq.length,sq[i]'h=s:=fun h=>(List.getElem?_eq_some_iff.1 hx1).2
   have hnx:=take_snoc' hx1
   have hf:=h2 _ (List.mem_of_getElem? hx1)
   have w2:IntKind.i64.wrap ((i:Int)+1)=(i:Int)+1:=wrap_id (by omega) (by omega)
   have hll:(sq.take i).length=i:=by simp;omega
   generalize sq.take i=ms at *
   have hL:(enSeq s).length=3:=rfl
   by_cases hi0:i=0
   · subst hi0
     obtain rfl:ms=[]:=List.eq_nil_of_length_eq_zero hll
     simp[nilQ,nilQs,hx1,hx2,decide_eq_true hlt,hL,hlt,enSeq]
     refine⟨by kernel_rfl,?_⟩
     refine call_step (copyInts_con s.2.2 (by omega)) ?_
     simp
     first | refine app_lit (q:=1) vt_el_24 (by exact rfl) (by simp) (by exact rfl) (by exact rfl) (by simp) (by simp) (by first | (simp;done)|(simp;omega)) ?_|refine app_row vt_el_24 (by exact rfl) (by simp) (by exact rfl) (by simp) (by first | (simp;done)|(simp;omega)) ?_
     simp[w2,show IntKind.i64.wrap 1=1 from rfl]
     exact round_of hI hS hμ 1 (by omega) (by omega) ⟨[3],by simp only[nilQ,nilQs];rw[hnx];simp[enSeq,e1,e3,eInt]⟩
   · simp[nilQ,nilQs,hx1,decide_eq_true hlt,hL,hi0,enSeq]
     refine⟨by kernel_rfl,?_⟩
     refine call_step (copyInts_con s.2.2 (by omega)) ?_
     simp
     first | refine app_lit (q:=1) vt_el_24 (by exact rfl) (by simp) (by exact rfl) (by exact rfl) (by simp) (by simp) (by first | (simp;done)|(simp;omega)) ?_|refine app_row vt_el_24 (by exact rfl) (by simp) (by exact rfl) (by simp) (by first | (simp;done)|(simp;omega)) ?_
     simp[w2]
     exact round_of hI hS hμ (i+1) (by omega) (by omega) ⟨[4],by simp only[nilQ,nilQs];rw[hnx];simp[enSeq,e1,e3,eInt]⟩
 · obtain rfl:i=sq.length:=by omega
   rw[List.take_length]
   by_cases hi0:sq.length=0
   · obtain rfl:=List.eq_nil_of_length_eq_zero hi0
     simp[nilQ,nilQs]
   · simp[nilQ,nilQs,hlt,hi0,decide_eq_false hlt]
set_option maxRecDepth 100000 in
theorem iCopyNet_conT (x:GrD) (hx:fitGr 1048576 x):ConT Try.prog 31 [vgr x] [] (vgr x) []:=by
 obtain⟨f1,f2,f3,f4⟩:=hx
 have kc:ConT Try.prog 81 [.d (eSl 3 (e1 eInt) x.2.2.2)] [] (.d (eSl 3 (e1 eInt) x.2.2.2)) []:=conT_of_C (copyInts_con x.2.2.2 f4) (by simp[notTup])
 refine conT_ofD (by kernel_rfl) Try.func31 rfl rfl rfl (by simp[laters,Later]) (by simp[lives,Slot.live]) ?_
 simp[enGr]
 refine drawE_of [(8,[0,1,9,10]),(11,[0,1]),(12,[]),(13,[])] (by kernel_rfl) ?_
 simp[enGr]
 refine call_step (iCopySeqs_con x.2.1 f1 f2) ?_
 simp[enGr]
 refine app_data vt_el_25 rfl (by simp) rfl (by simp) (fun c hc=>by obtain⟨b,_,rfl⟩:=List.mem_map.1 hc;rfl) (by simp;omega) (fun _=>flatP_ands) ?_
 simp
 refine callC_step (kc) [] [] (by simp) (by simp[nearTo]) ?_
 simp[enGr]
 exact⟨[],by simp⟩
def nilSeq (s:SeqD):SeqD:=(s.1,s.2.1,[])
def empS (I:Int) (k:Nat) (xs:List SeqD) (sl:List Slot):List Slot:=if k=0 then sl else sl.set 2 (.var 28 [.d (.int .i64 I),.ref 3,.nil 60,.nil 3])++[.arr 31 true (xs.map enSeq)]
set_option maxRecDepth 100000 in
theorem emptyCopy_conT (x:GrD) (hx:fitGr 1048576 x) (hne:0<x.2.1.length):ConT Try.prog 60 [vgr x] [] (.agg [.d (.int .i64 x.1),.ref 0,.nil 60,.nil 3]) [.arr 31 true ((x.2.1.map nilSeq).map enSeq)]:=by
 obtain⟨f1,f2,f3,f4⟩:=hx
 refine conT_of (by kernel_rfl) Try.func60 rfl rfl rfl (by simp[laters,Later]) (by simp[lives,Slot.live]) ?_
 simp[enGr]
 refine aw_loopN [false,false,true,true,false,false,false,false,false,false,true,true,true,false,false,false,false,false,false,false,false,false,false,false,false,false,false,false] (fun i:Nat=>i≤x.2.1.length) (fun i:Nat=>[(12,.d (.int .i64 i))]) (fun i:Nat=>empS x.1 i ((x.2.1.map nilSeq).take i)) (fun i:Nat=>x.2.1.length - i) 0 ?_ ?_ ?_
 · simp
 · exact⟨[0,1,2],by simp[empS]⟩
 rintro I S μ hI hS hμ i hi
 by_cases hlt:i<x.2.1.length
 · obtain⟨s,hx1⟩:∃ s,x.2.1[i]? = some s:=⟨_,List.getElem?_eq_getElem hlt⟩
   have hx2:∀ h:i<x.2.1.length,x.2.1[i]'h=s:=fun h=>(List.getElem?_eq_some_iff.1 hx1).2
   have hx3:(x.2.1.map nilSeq)[i]? = some (nilSeq s):=by rw[List.getElem?_map,hx1];rfl
   have hnx:=take_snoc' hx3
   have w2:IntKind.i64.wrap ((i:Int)+1)=(i:Int)+1:=wrap_id (by omega) (by omega)
   have hll:((x.2.1.map nilSeq).take i).length=i:=by simp;omega
   generalize (x.2.1.map nilSeq).take i=ms at *
   obtain⟨m2,hm2⟩:∃ m2,(x.2.1.map nilSeq).take (i+1)=m2:=⟨_,rfl⟩
   rw[hm2] at hnx
   have hL:(enSeq s).length=3:=rfl
   by_cases hi0:i=0
   · subst hi0
     obtain rfl:ms=[]:=List.eq_nil_of_length_eq_zero hll
     simp[empS,hx1,hx2,decide_eq_true hlt,hL,hlt,enSeq]
     first | refine app_lit (q:=1) vt_el_24 (by exact rfl) (by simp) (by exact rfl) (by exact rfl) (by simp) (by simp) (by first | (simp;done)|(simp;omega)) ?_|refine app_row vt_el_24 (by exact rfl) (by simp) (by exact rfl) (by simp) (by first | (simp;done)|(simp;omega)) ?_
     simp[w2,show IntKind.i64.wrap 1=1 from rfl]
     exact round_of hI hS hμ 1 (by omega) (by omega) ⟨[0,1,2,5],by simp[empS,hm2,hnx,nilSeq,enSeq,e1,e3,eInt,eSl]⟩
   · simp[empS,hx1,decide_eq_true hlt,hL,hi0,enSeq]
     first | refine app_lit (q:=1) vt_el_24 (by exact rfl) (by simp) (by exact rfl) (by exact rfl) (by simp) (by simp) (by first | (simp;done)|(simp;omega)) ?_|refine app_row vt_el_24 (by exact rfl) (by simp) (by exact rfl) (by simp) (by first | (simp;done)|(simp;omega)) ?_
     simp[w2]
     exact round_of hI hS hμ (i+1) (by omega) (by omega) ⟨[0,1,2,6],by simp[empS,hm2,hnx,nilSeq,enSeq,e1,e3,eInt,eSl]⟩
 · obtain rfl:i=x.2.1.length:=by omega
   have hall:(x.2.1.map nilSeq).take x.2.1.length=x.2.1.map nilSeq:=List.take_of_length_le (by simp)
   rw[hall]
   simp[empS,hlt,show ¬ x.2.1.length=0 by omega,decide_eq_false hlt]
   exact⟨[3],by simp⟩
end Go.Proofs.Ytnjedabjbeipeaa
