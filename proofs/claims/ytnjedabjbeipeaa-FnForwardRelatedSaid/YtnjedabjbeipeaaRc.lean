/-
  The sequential elements that can be observed, and links to them, by abstract walks: both sides.
  Conditions: those typed in each theorem.
-/
import Derived.Test.YtnjedabjbeipeaaRb
import Derived.Test.YtnjedabjbeipeaaNf
import Derived.Test.YtnjedabjbeipeaaNp
namespace Go.Proofs.Ytnjedabjbeipeaa
open Go.RowKit Go.ChangeShapes Go.WideShapes
set_option linter.unusedVariables false
set_option linter.unusedSimpArgs false
attribute [local simp ↓] condG_true condG_false condB_true condB_false
attribute [local simp] AWp_skip AWp_region_t AWp_region_d AWp_region_f still_mk AWp_seq AWp_cond condV_bool condB AWp_block AWp_exit AWp_ret
attribute [local simp] AOps_nil AOp_move AOp_assign AOp_pick AOp_binOp AOp_unOp AOp_convert AOp_len AOp_max AOp_min AOp_indexAddr AOp_load
attribute [local simp] AOp_fieldAddr AOp_field AOp_extract AOp_nilCheck AOp_build AOp_alloc AOp_box AOp_call AOp_store AOp_append AOp_buildSlice nextB_some
attribute [local simp] nextB_none adoptO adoptC AOp_makeSlice AOp_slice AOp_makeFunc AOp_guard guardD_some guardG_bool guardG_undef nextO_some nextS_some
attribute [local simp] nextZ_some nextL_some nextM_some nextT_some sliceO sliceL sliceT partO partV boundV funcO pickO
attribute [local simp] convO lenO maxO minO idxO extO nilO buildO litO litC makeO chunks
attribute [local simp] fillV placeOf thenA inBlockA St.get St.put St.eval ofCell evalT abin_add abin_sub abin_mul
attribute [local simp] abin_quo abin_rem abin_and abin_or abin_xor abin_andNot abin_shl abin_shr abin_shlu abin_eql abin_eqp abin_neq
attribute [local simp] abin_lss abin_leq abin_gtr abin_geq abin_eqlb abin_neqb aun pickV lenV intOf? indexV takeD
attribute [local simp] takeV loadV fieldAddrV fieldV ofX presD presDs pres presAll cellsV V.cell storeV
attribute [local simp] freezeC putAt kill takeC plains plainV scalarV nat_neg keepT sets eSl e1
attribute [local simp] e2 e3 e4 eInt eBool abinS_d abinS_agg abinS nilEq abin_eqb AOp_makeMap AOp_lookup
attribute [local simp] AOp_mapUpdate lookG_some updG_some mapV kyOf vlOf lookV vlV buildA afterCall inst inst1
attribute [local simp] inst1s instD instDs RetA resVs resV gives give1 give1s Le isPin leSlots
attribute [local simp] leS leTmps leV le0 le0s ren ren0 renS ren0s frame enterT afterT_some
attribute [local simp] afterC_some lives Slot.live arrsOk viewV view0 renT rens renSs setAll List.range'_succ RetT
attribute [local simp] RetW joinV leT AOpsE_nil AOpsE_cons AOpsT_nil AOpsT_cons isCallT isFnO callOf callVC_fn condC_true
attribute [local simp] condC_false beginT_mk beginX_mk AOpsX_zero thenT_mk pickE pickT isT loose namesOf namesV names1
attribute [local simp] names0 stableN sameAt Op.operands Call.operands
def keptK (m:List Bool) (q:Nat):Nat→List Int
 | 0=>[]
 | i+1=>if getB m (q+i)=true then keptK m q i++[(i:Int)] else keptK m q i
theorem keptK_len {m:List Bool} {q:Nat}:∀ i,(keptK m q i).length≤i
 | 0=>by simp[keptK]
 | i+1=>by have:=keptK_len (m:=m) (q:=q) i;unfold keptK;split<;>simp<;>omega
theorem keptK_in {m:List Bool} {q:Nat}:∀ i,∀ y∈keptK m q i,0≤y∧y<(i:Int)
 | 0,y,h=>by simp[keptK] at h
 | i+1,y,h=>by
   unfold keptK at h
   split at h
   · rcases List.mem_append.1 h with h|h
     · have:=keptK_in i y h;omega
     · rw[List.mem_singleton.1 h];omega
   · have:=keptK_in i y h;omega
noncomputable def keptG (x:GrD):List Int:=if netOkB x=true then keptK (obsB x) (firstQ x) x.2.1.length else []
theorem keptG_len {x:GrD}:(keptG x).length≤12:=by
 unfold keptG
 split
 · rename_i h
   obtain⟨⟨n1,n2,n3,n4,n5,n6⟩,-,-,-⟩:=netOk_of h
   have:=keptK_len (m:=obsB x) (q:=firstQ x) x.2.1.length
   omega
 · simp
def lkP (is:List Int):List LinkD:=is.map fun i=>([i],2)
theorem lkP_snoc {is:List Int} {i:Int}:lkP (is++[i])=lkP is++[([i],2)]:=by simp[lkP]
def nilL (k s:Nat):V:=if k=0 then .nil 44 else .ref s
def nilLS (k:Nat) (xs:List LinkD) (sl:List Slot):List Slot:=if k=0 then sl else sl++[.arr 44 true (xs.map enLink)]
set_option maxRecDepth 100000 in
theorem iKept_con (x:GrD) (hx:fitGr 1048576 x):ConC Try.prog 33 [igr x] (ints (keptG x)):=by
 have hB:keptG x=if netOkB x=true then keptK (obsB x) (firstQ x) x.2.1.length else []:=rfl
 have kok:=iNetOk_con x hx
 refine con_of (by kernel_rfl) Try.func33 rfl rfl rfl ?_
 simp[enGr]
 cases hok:netOkB x with
 | false =>
   rw[if_neg (by simp[hok])] at hB
   rw[hok] at kok
   refine call_step (kok) ?_
   simp[enGr,hB]
 | true =>
 rw[if_pos hok] at hB
 obtain⟨⟨n1,n2,n3,n4,n5,n6⟩,-,-,-⟩:=netOk_of hok
 obtain⟨hF,hgl,hNi,hno⟩:=ok_sizes hok
 have hN:=grN_eq x
 have hGQ:=firstG_eq (x:=x)
 have hQ:(firstQ x:Int)=1+x.1:=by unfold firstQ;omega
 rw[hok] at kok
 have hol:=obsB_len (x:=x)
 refine call_step (kok) ?_
 simp[enGr]
 refine call_step (observable_con x hx hok) ?_
 simp[enGr]
 rw[hB]
 generalize obsB x=m at *
 refine aw_loopN [false,true,false,true,true,false,false,false,false,false,false,false,false,true,true,false,false,false,false,false,false,false,false,false,false,false,false,false,false,false] (fun i:Nat=>i≤x.2.1.length) (fun i:Nat=>[(4,nilR (keptK m (firstQ x) i).length 2),(14,.d (.int .i64 i))]) (fun i:Nat=>nilS (keptK m (firstQ x) i).length (keptK m (firstQ x) i)) (fun i:Nat=>x.2.1.length - i) 0 ?_ ?_ ?_
 · simp
 · exact⟨[0,1],by simp[nilR,nilS,keptK]⟩
 rintro I S μ hI hS hμ i hi
 by_cases hlt:i<x.2.1.length
 · have hat:=getB_at (s:=m) (v:=firstQ x+i) (by omega)
   have w1:IntKind.i64.wrap (1+x.1+(i:Int))=((firstQ x+i:Nat):Int):=by rw[wrap_id (by omega) (by omega)];omega
   have w2:IntKind.i64.wrap ((i:Int)+1)=(i:Int)+1:=wrap_id (by omega) (by omega)
   have hd:decide (i<x.2.1.length)=true:=decide_eq_true hlt
   have hnx:keptK m (firstQ x) (i+1)=if getB m (firstQ x+i)=true then keptK m (firstQ x) i++[(i:Int)] else keptK m (firstQ x) i:=rfl
   have hll:=keptK_len (m:=m) (q:=firstQ x) i
   generalize keptK m (firstQ x) i=ms at *
   generalize firstQ x+i=v at *
   rcases Bool.eq_false_or_eq_true (getB m v) with hb|hb
   · rw[hb,if_pos rfl] at hnx
     by_cases hk0:ms=[]
     · subst hk0
       simp[hd,nilR,nilS]
       refine call_step (firstSeq_con x ⟨n1,n2⟩) ?_
       simp[w1,hat,enGr,hb]
       refine app_data vt_el_26 rfl (by simp) rfl (by simp) (by simp) (by first | (simp;done)|(simp;omega)) (by simp[flatP,flatD]) ?_
       simp[w2]
       exact round_of hI hS hμ (i+1) (by omega) (by omega) ⟨[0,1,3],by simp[nilR,nilS,hnx]⟩
     · simp[hd,nilR,nilS,hk0]
       refine call_step (firstSeq_con x ⟨n1,n2⟩) ?_
       simp[w1,hat,enGr,hb]
       refine app_data vt_el_26 rfl (by simp) rfl (by simp) (by simp) (by first | (simp;done)|(simp;omega)) (by simp[flatP,flatD]) ?_
       simp[w2]
       exact round_of hI hS hμ (i+1) (by omega) (by omega) ⟨[0,1,4],by simp[nilR,nilS,hnx]⟩
   · rw[hb,if_neg (by simp)] at hnx
     by_cases hk0:ms=[]
     · subst hk0
       simp[hd,nilR,nilS]
       refine call_step (firstSeq_con x ⟨n1,n2⟩) ?_
       simp[w1,hat,enGr,hb,w2]
       exact round_of hI hS hμ (i+1) (by omega) (by omega) ⟨[0,1],by simp[nilR,nilS,hnx]⟩
     · simp[hd,nilR,nilS,hk0]
       refine call_step (firstSeq_con x ⟨n1,n2⟩) ?_
       simp[w1,hat,enGr,hb,w2]
       exact round_of hI hS hμ (i+1) (by omega) (by omega) ⟨[0,1,2],by simp[nilR,nilS,hnx,hk0]⟩
 · obtain rfl:i=x.2.1.length:=by omega
   generalize keptK m (firstQ x) x.2.1.length=ms at *
   by_cases hk0:ms=[]
   · subst hk0
     simp[nilR,nilS,hlt]
   · simp[nilR,nilS,hlt,hk0]
set_option maxRecDepth 100000 in
theorem iPruneLinks_con (x:GrD) (hx:fitGr 1048576 x):ConC Try.prog 12 [igr x] (ilk (lkP (keptG x))):=by
 have kk:=iKept_con x hx
 have hl:=keptG_len (x:=x)
 refine con_of (by kernel_rfl) Try.func12 rfl rfl rfl ?_
 simp[enGr]
 generalize keptG x=is at *
 refine call_step (kk) ?_
 simp[enGr]
 refine aw_loopN [false,false,false,true,false,false,false,true,true,true,false,false,false,false,false,false,false,false,false,false,false] (fun i:Nat=>i≤is.length) (fun i:Nat=>[(3,nilL i 2),(9,.d (.int .i64 i))]) (fun i:Nat=>nilLS i (lkP (is.take i))) (fun i:Nat=>is.length - i) 0 ?_ ?_ ?_
 · simp
 · exact⟨[0,1],by simp[nilL,nilLS]⟩
 rintro I S μ hI hS hμ i hi
 by_cases hlt:i<is.length
 · have hx1:is[i]? = some is[i]:=List.getElem?_eq_getElem hlt
   have hnx:=congrArg lkP (take_snoc' hx1)
   rw[lkP_snoc] at hnx
   have hll:(lkP (is.take i)).length=i:=by simp[lkP];omega
   have w2:IntKind.i64.wrap ((i:Int)+1)=(i:Int)+1:=wrap_id (by omega) (by omega)
   have hx2:∀ h:i<is.length,is[i]'h=is.getD i 0:=fun h=>by simp[List.getD_eq_getElem?_getD,h]
   have hx1:is[i]? = some (is.getD i 0):=by rw[hx1,←hx2 hlt]
   rw[hx2 hlt] at hnx
   generalize is.getD i 0=y at *
   generalize lkP (is.take i)=ms at *
   by_cases hi0:i=0
   · subst hi0
     obtain rfl:ms=[]:=List.eq_nil_of_length_eq_zero hll
     simp[nilL,nilLS,decide_eq_true hlt,hlt,hx1,hx2]
     first | refine app_lit (q:=1) vt_el_34 (by exact rfl) (by simp) (by exact rfl) (by exact rfl) (by simp) (by simp) (by first | (simp;done)|(simp;omega)) ?_|refine app_row vt_el_34 (by exact rfl) (by simp) (by exact rfl) (by simp) (by first | (simp;done)|(simp;omega)) ?_
     simp[w2,show IntKind.i64.wrap 1=1 from rfl]
     exact round_of hI hS hμ 1 (by omega) (by omega) ⟨[0,1,4],by simp[nilL,nilLS,hnx,enLink,e1,e2,eInt]⟩
   · simp[nilL,nilLS,decide_eq_true hlt,hx1,hi0]
     first | refine app_lit (q:=1) vt_el_34 (by exact rfl) (by simp) (by exact rfl) (by exact rfl) (by simp) (by simp) (by first | (simp;done)|(simp;omega)) ?_|refine app_row vt_el_34 (by exact rfl) (by simp) (by exact rfl) (by simp) (by first | (simp;done)|(simp;omega)) ?_
     simp[w2]
     exact round_of hI hS hμ (i+1) (by omega) (by omega) ⟨[0,1,5],by simp[nilL,nilLS,hnx,enLink,e1,e2,eInt]⟩
 · obtain rfl:i=is.length:=by omega
   rw[List.take_length]
   by_cases hi0:is.length=0
   · obtain rfl:=List.eq_nil_of_length_eq_zero hi0
     simp[nilL,nilLS,lkP]
   · simp[nilL,nilLS,hlt,hi0,decide_eq_false hlt]
end Go.Proofs.Ytnjedabjbeipeaa
