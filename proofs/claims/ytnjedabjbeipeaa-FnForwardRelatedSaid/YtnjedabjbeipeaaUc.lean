/-
  Forward retiming, by abstract walks: the program.
  Conditions: those typed in each theorem.
-/
import Derived.Test.YtnjedabjbeipeaaUb
import Derived.Test.YtnjedabjbeipeaaRh
namespace Go.Proofs.Ytnjedabjbeipeaa
open Go.RowKit Go.ChangeShapes Go.WideShapes
set_option linter.unusedVariables false
set_option linter.unusedSimpArgs false
attribute [local simp ↓] condG_true condG_false condB_true condB_false
attribute [local simp] AWp_skip AWp_region_t AWp_region_d AWp_region_f still_mk AWp_seq AWp_cond condV_bool condB AWp_block AWp_exit AWp_ret
attribute [local simp] AOps_nil AOp_move AOp_assign AOp_pick AOp_binOp AOp_unOp AOp_convert AOp_len AOp_max AOp_min AOp_indexAddr AOp_load
attribute [local simp] AOp_fieldAddr AOp_field AOp_extract AOp_nilCheck AOp_build AOp_alloc AOp_box AOp_call AOp_store AOp_append AOp_buildSlice nextB_some
attribute [local simp] nextB_none adoptO adoptC AOp_makeSlice AOp_slice AOp_makeFunc AOp_guard guardD_some guardG_bool guardG_undef nextO_some nextS_some
attribute [local simp] nextZ_some nextL_some nextM_some nextT_some sliceO sliceL sliceT partO partV boundV funcO pickO
attribute [local simp] convO lenO maxO minO idxO extO nilO buildO litO litC makeO chunks
attribute [local simp] fillV placeOf thenA inBlockA St.get St.put St.eval ofCell evalT abin_add abin_sub abin_mul
attribute [local simp] abin_quo abin_rem abin_and abin_or abin_xor abin_andNot abin_shl abin_shr abin_shlu abin_eql abin_eqp abin_neq
attribute [local simp] abin_lss abin_leq abin_gtr abin_geq abin_eqlb abin_neqb aun pickV lenV intOf? indexV takeD
attribute [local simp] takeV loadV fieldAddrV fieldV ofX presD presDs pres presAll cellsV V.cell storeV
attribute [local simp] freezeC putAt kill takeC plains plainV scalarV nat_neg keepT sets eSl e1
attribute [local simp] e2 e3 e4 eInt eBool abinS_d abinS_agg abinS nilEq abin_eqb AOp_makeMap AOp_lookup
attribute [local simp] AOp_mapUpdate lookG_some updG_some mapV kyOf vlOf lookV vlV buildA afterCall inst inst1
attribute [local simp] inst1s instD instDs RetA resVs resV gives give1 give1s Le isPin leSlots
attribute [local simp] leS leTmps leV le0 le0s ren ren0 renS ren0s frame enterT afterT_some
attribute [local simp] afterC_some lives Slot.live arrsOk viewV view0 renT rens renSs setAll List.range'_succ RetT
attribute [local simp] RetW joinV leT AOpsE_nil AOpsE_cons AOpsT_nil AOpsT_cons isCallT isFnO callOf callVC_fn condC_true
attribute [local simp] condC_false beginT_mk beginX_mk AOpsX_zero thenT_mk pickE pickT isT loose namesOf namesV names1
attribute [local simp] names0 stableN sameAt Op.operands Call.operands
def stZ (x:GrD) (pl:List Int) (fl:SeqD) (i:Nat):List SeqD:=(x.2.1.take i).map (mapSeq pl)++((x.2.1.drop i).map nilSeq++[fl])
theorem stZ_at {x:GrD} {pl:List Int} {fl s:SeqD} {i:Nat} (h:x.2.1[i]? = some s):(stZ x pl fl i)[i]? = some (nilSeq s):=by
 have hi:=(List.getElem?_eq_some_iff.1 h).1
 unfold stZ
 rw[List.getElem?_append_right (by simp;omega)]
 simp only[List.length_map,List.length_take]
 rw[List.getElem?_append_left (by simp;omega),List.getElem?_map,List.getElem?_drop,show i+(i - min i x.2.1.length)=i by omega,h]
 rfl
theorem stZ_set {x:GrD} {pl:List Int} {fl s:SeqD} {i:Nat} (h:x.2.1[i]? = some s):(stZ x pl fl i).set i (mapSeq pl s)=stZ x pl fl (i+1):=by
 obtain⟨hi,e⟩:=List.getElem?_eq_some_iff.1 h
 unfold stZ
 rw[List.set_append_right _ _ (by simp;omega),take_snoc' h,List.map_append,List.append_assoc]
 congr 1
 rw[List.length_map,List.length_take,show i - min i x.2.1.length=0 by omega,List.drop_eq_getElem_cons hi,e]
 rfl
@[simp] theorem stZ_len {x:GrD} {pl:List Int} {fl:SeqD} {i:Nat}:(stZ x pl fl i).length=x.2.1.length+1:=by unfold stZ;simp;omega
theorem stZ_all {x:GrD} {pl:List Int} {fl:SeqD}:stZ x pl fl x.2.1.length=x.2.1.map (mapSeq pl)++[fl]:=by unfold stZ;simp
theorem stZ_zero {x:GrD} {pl:List Int} {fl:SeqD}:stZ x pl fl 0=x.2.1.map nilSeq++[fl]:=by unfold stZ;simp
set_option maxRecDepth 100000 in
set_option maxHeartbeats 4000000 in
theorem copyRoots_n (x:GrD) (pl:List Int) (fl:SeqD) (hx:fitGr 1048576 x) (hp:pl.length≤1048576) (hs:∀ s∈x.2.1,litsAt pl.length s.2.2) (ho:litsAt pl.length x.2.2.2) :
 ConT Try.prog 68 [.ptr 0 0,vgr x,.d (eSl 3 (e1 eInt) pl)] [.var 28 [.d (.int .i64 x.1),.ref 1,.nil 60,.nil 3],.arr 31 true ((x.2.1.map nilSeq++[fl]).map enSeq)] (.tup []) [.var 28 [.d (.int .i64 x.1),.ref 1,.nil 60,.ref 2],.arr 31 true ((x.2.1.map (mapSeq pl)++[fl]).map enSeq),.arr 3 true ((x.2.2.2.map (plMapV pl)).map (e1 eInt))]:=by
 obtain⟨f1,f2,f3,f4⟩:=hx
 rw[←stZ_zero (pl:=pl),←stZ_all]
 refine conT_of (by kernel_rfl) Try.func68 rfl rfl rfl (by simp[laters,Later]) (by simp[lives,Slot.live]) ?_
 simp[enGr]
 refine aw_loopU [true,false,true,false,true,false,false,false,false,true,true,true,false,false,false,false,false,false,false,false,false,false,false,false,false,false,false,false,false,false,false,false,false,false,false] (fun i:Nat=>i≤x.2.1.length) (fun i:Nat=>[(11,.d (.int .i64 i))]) (fun i:Nat=>[(1,.arr 31 true ((stZ x pl fl i).map enSeq))]) (fun i:Nat=>x.2.1.length - i) 0 ?_ ?_ ?_
 · exact Nat.zero_le _
 · exact⟨[0,1,2],by simp⟩
 rintro I S μ hI hS hμ i hi
 by_cases hlt:i<x.2.1.length
 · obtain⟨s,hx1⟩:∃ s,x.2.1[i]? = some s:=⟨_,List.getElem?_eq_getElem hlt⟩
   have hat:=stZ_at (pl:=pl) (fl:=fl) hx1
   have hset:=stZ_set (pl:=pl) (fl:=fl) hx1
   have hzl:=stZ_len (x:=x) (pl:=pl) (fl:=fl) (i:=i)
   have hmem:=List.mem_of_getElem? hx1
   have km:=mapLits_con pl s.2.2 hp (f2 s hmem) (hs s hmem)
   have w2:IntKind.i64.wrap ((i:Int)+1)=((i+1:Nat):Int):=by rw[wrap_id (by omega) (by omega)];omega
   have hL:(enSeq s).length=3:=rfl
   have hL2:(enSeq (nilSeq s)).length=3:=rfl
   have hse:((stZ x pl fl i).map enSeq).set i (enSeq (mapSeq pl s))=(stZ x pl fl (i+1)).map enSeq:=by rw[←hset,List.map_set]
   obtain⟨z2,hz2⟩:∃ z2,stZ x pl fl (i+1)=z2:=⟨_,rfl⟩
   rw[hz2] at hse
   clear hset
   generalize stZ x pl fl i=z1 at *
   simp only[mapSeq,enSeq,e3,eInt,eSl] at hse
   simp[decide_eq_true hlt,hx1,hL,enSeq]
   refine⟨by kernel_rfl,?_⟩
   refine call_step (km) ?_
   simp[hat,hL2,enSeq,nilSeq]
   simp only[List.map_map] at hse
   simp[hse,w2]
   exact round_of hI hS hμ (i+1) (by omega) (by omega) ⟨[0,1,2],by simp[hz2]⟩
 · obtain rfl:i=x.2.1.length:=by omega
   have km:=mapLits_con pl x.2.2.2 hp f4 ho
   simp[decide_eq_false hlt,hlt]
   refine call_step (km) ?_
   simp
   exact⟨[0,1,3],by simp⟩
set_option maxRecDepth 100000 in
set_option maxHeartbeats 4000000 in
theorem copyRoots_a (x:GrD) (pl:List Int) (fl:SeqD) (an:List AndD) (hx:fitGr 1048576 x) (hp:pl.length≤1048576) (hs:∀ s∈x.2.1,litsAt pl.length s.2.2) (ho:litsAt pl.length x.2.2.2) :
 ConT Try.prog 68 [.ptr 0 0,vgr x,.d (eSl 3 (e1 eInt) pl)] [.var 28 [.d (.int .i64 x.1),.ref 1,.ref 2,.nil 3],.arr 31 true ((x.2.1.map nilSeq++[fl]).map enSeq),.arr 60 true (an.map enAnd)] (.tup []) [.var 28 [.d (.int .i64 x.1),.ref 1,.ref 2,.ref 3],.arr 31 true ((x.2.1.map (mapSeq pl)++[fl]).map enSeq),.arr 60 true (an.map enAnd),.arr 3 true ((x.2.2.2.map (plMapV pl)).map (e1 eInt))]:=by
 obtain⟨f1,f2,f3,f4⟩:=hx
 rw[←stZ_zero (pl:=pl),←stZ_all]
 refine conT_of (by kernel_rfl) Try.func68 rfl rfl rfl (by simp[laters,Later]) (by simp[lives,Slot.live]) ?_
 simp[enGr]
 refine aw_loopU [true,false,true,false,true,false,false,false,false,true,true,true,false,false,false,false,false,false,false,false,false,false,false,false,false,false,false,false,false,false,false,false,false,false,false] (fun i:Nat=>i≤x.2.1.length) (fun i:Nat=>[(11,.d (.int .i64 i))]) (fun i:Nat=>[(1,.arr 31 true ((stZ x pl fl i).map enSeq))]) (fun i:Nat=>x.2.1.length - i) 0 ?_ ?_ ?_
 · exact Nat.zero_le _
 · exact⟨[0,1,2,3],by simp⟩
 rintro I S μ hI hS hμ i hi
 by_cases hlt:i<x.2.1.length
 · obtain⟨s,hx1⟩:∃ s,x.2.1[i]? = some s:=⟨_,List.getElem?_eq_getElem hlt⟩
   have hat:=stZ_at (pl:=pl) (fl:=fl) hx1
   have hset:=stZ_set (pl:=pl) (fl:=fl) hx1
   have hzl:=stZ_len (x:=x) (pl:=pl) (fl:=fl) (i:=i)
   have hmem:=List.mem_of_getElem? hx1
   have km:=mapLits_con pl s.2.2 hp (f2 s hmem) (hs s hmem)
   have w2:IntKind.i64.wrap ((i:Int)+1)=((i+1:Nat):Int):=by rw[wrap_id (by omega) (by omega)];omega
   have hL:(enSeq s).length=3:=rfl
   have hL2:(enSeq (nilSeq s)).length=3:=rfl
   have hse:((stZ x pl fl i).map enSeq).set i (enSeq (mapSeq pl s))=(stZ x pl fl (i+1)).map enSeq:=by rw[←hset,List.map_set]
   obtain⟨z2,hz2⟩:∃ z2,stZ x pl fl (i+1)=z2:=⟨_,rfl⟩
   rw[hz2] at hse
   clear hset
   generalize stZ x pl fl i=z1 at *
   simp only[mapSeq,enSeq,e3,eInt,eSl] at hse
   simp[decide_eq_true hlt,hx1,hL,enSeq]
   refine⟨by kernel_rfl,?_⟩
   refine call_step (km) ?_
   simp[hat,hL2,enSeq,nilSeq]
   simp only[List.map_map] at hse
   simp[hse,w2]
   exact round_of hI hS hμ (i+1) (by omega) (by omega) ⟨[0,1,2,3],by simp[hz2]⟩
 · obtain rfl:i=x.2.1.length:=by omega
   have km:=mapLits_con pl x.2.2.2 hp f4 ho
   simp[decide_eq_false hlt,hlt]
   refine call_step (km) ?_
   simp
   exact⟨[0,1,2,4],by simp⟩
def lastOf (ini:Int):SeqD:=(0,ini,[])
set_option maxRecDepth 100000 in
set_option maxHeartbeats 8000000 in
theorem forward_no (x:GrD) (k:Int) (hx:fitGr 1048576 x) (hno':frontB x k=false):ConT Try.prog 30 [vgr x,.d (.int .i64 k)] [] (.tup [vgr (if fwdOkB x k=true then fwdG x k else x),.d (.bool (fwdOkB x k))]) []:=by
 have kcopy:=iCopyNet_conT x hx
 have kok:=iNetOk_con x hx
 have hO:fwdOkB x k=(frontB x k&&((fwdImp x k).2.2&&decide (0≤fwdV x k))):=rfl
 obtain⟨G,hG⟩:∃ G,(if fwdOkB x k=true then fwdG x k else x)=G:=⟨_,rfl⟩
 rw[hG]
 obtain⟨f1,f2,f3,f4⟩:=id hx
 have wl:IntKind.i64.wrap ((x.2.2.1.length:Int) - 1)=(x.2.2.1.length:Int) - 1:=wrap_id (by omega) (by omega)
 have kin:=inr_con k 0 ((x.2.2.1.length:Int) - 1)
 have hfail:∀ {b:Bool},fwdOkB x k=false→b=false→G=x∧fwdOkB x k=b:=fun h1 h2=>by
  rw[h1] at hG ⊢
  exact⟨by rw[←hG];simp,h2.symm⟩
 cases hok:netOkB x with
 | false =>
   obtain⟨hGx,hB⟩:=hfail (b:=false) (by rw[hO];unfold frontB;rw[hok];rfl) rfl
   rw[hGx,hB]
   rw[hok] at kok
   refine conT_of (by kernel_rfl) Try.func30 rfl rfl rfl (by simp[laters,Later]) (by simp[lives,Slot.live]) ?_
   simp[enGr]
   refine call_step (kok) ?_
   simp[enGr]
   refine callT_step (kcopy) [] [] (by simp) ?_
   simp
   exact⟨[],by simp⟩
 | true =>
 rw[hok] at kok
 by_cases hk:0≤k∧k<x.2.2.1.length
 case neg =>
  have hr:rng k 0 ((x.2.2.1.length:Int) - 1)=false:=by
   cases h:rng k 0 ((x.2.2.1.length:Int) - 1) with
   | false=>rfl
   | true=>have:=rng_iff.1 h;omega
  obtain⟨hGx,hB⟩:=hfail (b:=false) (by rw[hO];unfold frontB;rw[decide_eq_false hk];simp) rfl
  rw[hGx,hB]
  rw[hr] at kin
  refine conT_of (by kernel_rfl) Try.func30 rfl rfl rfl (by simp[laters,Later]) (by simp[lives,Slot.live]) ?_
  simp[enGr]
  refine call_step (kok) ?_
  simp[enGr,wl]
  refine call_step (kin) ?_
  simp
  refine callT_step (kcopy) [] [] (by simp) ?_
  simp
  exact⟨[],by simp⟩
 have hr:rng k 0 ((x.2.2.1.length:Int) - 1)=true:=rng_iff.2 (by omega)
 rw[hr] at kin
 obtain⟨⟨n1,n2,n3,n4,n5,n6⟩,-,-,-⟩:=netOk_of hok
 obtain⟨hF,hgl,hNi,hno⟩:=ok_sizes hok
 have hN:=grN_eq x
 obtain⟨ha1,-⟩:=andK_at hk
 obtain⟨hr1,hr2⟩:=andK_rng hok hk
 have kfa:=flopOf_con x (andK x k).1 ⟨n1,n2⟩ n3 (by omega)
 have kfb:=flopOf_con x (andK x k).2 ⟨n1,n2⟩ n3 (by omega)
 obtain⟨ra1,ra2,-⟩:=flopL_rng (x:=x) (l:=(andK x k).1)
 obtain⟨rb1,rb2,-⟩:=flopL_rng (x:=x) (l:=(andK x k).2)
 have hLA:(enAnd (andK x k)).length=2:=rfl
 obtain⟨kn,hkn⟩:∃ kn:Nat,k=kn:=⟨k.toNat,by omega⟩
 have ha2:x.2.2.1[kn]? = some (andK x k):=by rw[←ha1,hkn];rfl
 by_cases hfr:0≤flopL x (andK x k).1∧0≤flopL x (andK x k).2∧x.2.1.length<12
 case neg =>
  obtain⟨hGx,hB⟩:=hfail (b:=false) (by
   rw[hO];unfold frontB;rw[hok,decide_eq_true hk]
   cases h:decide (0≤flopL x (andK x k).1)&&(decide (0≤flopL x (andK x k).2)&&decide (x.2.1.length<12)) with
   | false=>simp[h]
   | true=>simp only[Bool.and_eq_true,decide_eq_true_eq] at h;exact absurd h hfr) rfl
  rw[hGx,hB]
  generalize flopL x (andK x k).1=fa at *
  generalize flopL x (andK x k).2=fb at *
  generalize andK x k=A at *
  subst hkn
  refine conT_of (by kernel_rfl) Try.func30 rfl rfl rfl (by simp[laters,Later]) (by simp[lives,Slot.live]) ?_
  simp[enGr]
  refine call_step (kok) ?_
  simp[enGr,wl]
  refine call_step (kin) ?_
  simp[ha2,hLA,enAnd]
  refine⟨by kernel_rfl,?_⟩
  refine call_step (kfa) ?_
  simp[enGr]
  refine call_step (kfb) ?_
  simp[enGr]
  by_cases c1:0≤fa
  · by_cases c2:0≤fb
    · have c3:(12:Int)≤(x.2.1.length:Int):=by omega
      simp[show ¬ fa<0 by omega,decide_eq_false (show ¬ fa<0 by omega),show ¬ fb<0 by omega,decide_eq_false (show ¬ fb<0 by omega),c3,decide_eq_true c3,show ¬ (x.2.1.length:Int)<12 by omega]
      refine callT_step (kcopy) [] [] (by simp) ?_
      simp
      exact⟨[],by simp⟩
    · simp[show ¬ fa<0 by omega,decide_eq_false (show ¬ fa<0 by omega),show fb<0 by omega,decide_eq_true (show fb<0 by omega)]
      refine callT_step (kcopy) [] [] (by simp) ?_
      simp
      exact⟨[],by simp⟩
  · simp[show fa<0 by omega,decide_eq_true (show fa<0 by omega)]
    refine callT_step (kcopy) [] [] (by simp) ?_
    simp
    exact⟨[],by simp⟩
 obtain⟨c1,c2,c3⟩:=hfr
 have hfront:frontB x k=true:=by unfold frontB;rw[hok,decide_eq_true hk,decide_eq_true c1,decide_eq_true c2,decide_eq_true c3];rfl
 exfalso
 rw[hno'] at hfront;cases hfront
end Go.Proofs.Ytnjedabjbeipeaa
namespace Go.Proofs.Ytnjedabjbeipeaa
open Go.RowKit Go.ChangeShapes Go.WideShapes
set_option linter.unusedVariables false
set_option linter.unusedSimpArgs false
attribute [local simp ↓] condG_true condG_false condB_true condB_false
attribute [local simp] AWp_skip AWp_region_t AWp_region_d AWp_region_f still_mk AWp_seq AWp_cond condV_bool condB AWp_block AWp_exit AWp_ret
attribute [local simp] AOps_nil AOp_move AOp_assign AOp_pick AOp_binOp AOp_unOp AOp_convert AOp_len AOp_max AOp_min AOp_indexAddr AOp_load
attribute [local simp] AOp_fieldAddr AOp_field AOp_extract AOp_nilCheck AOp_build AOp_alloc AOp_box AOp_call AOp_store AOp_append AOp_buildSlice nextB_some
attribute [local simp] nextB_none adoptO adoptC AOp_makeSlice AOp_slice AOp_makeFunc AOp_guard guardD_some guardG_bool guardG_undef nextO_some nextS_some
attribute [local simp] nextZ_some nextL_some nextM_some nextT_some sliceO sliceL sliceT partO partV boundV funcO pickO
attribute [local simp] convO lenO maxO minO idxO extO nilO buildO litO litC makeO chunks
attribute [local simp] fillV placeOf thenA inBlockA St.get St.put St.eval ofCell evalT abin_add abin_sub abin_mul
attribute [local simp] abin_quo abin_rem abin_and abin_or abin_xor abin_andNot abin_shl abin_shr abin_shlu abin_eql abin_eqp abin_neq
attribute [local simp] abin_lss abin_leq abin_gtr abin_geq abin_eqlb abin_neqb aun pickV lenV intOf? indexV takeD
attribute [local simp] takeV loadV fieldAddrV fieldV ofX presD presDs pres presAll cellsV V.cell storeV
attribute [local simp] freezeC putAt kill takeC plains plainV scalarV nat_neg keepT sets eSl e1
attribute [local simp] e2 e3 e4 eInt eBool abinS_d abinS_agg abinS nilEq abin_eqb AOp_makeMap AOp_lookup
attribute [local simp] AOp_mapUpdate lookG_some updG_some mapV kyOf vlOf lookV vlV buildA afterCall inst inst1
attribute [local simp] inst1s instD instDs RetA resVs resV gives give1 give1s Le isPin leSlots
attribute [local simp] leS leTmps leV le0 le0s ren ren0 renS ren0s frame enterT afterT_some
attribute [local simp] afterC_some lives Slot.live arrsOk viewV view0 renT rens renSs setAll List.range'_succ RetT
attribute [local simp] RetW joinV leT AOpsE_nil AOpsE_cons AOpsT_nil AOpsT_cons isCallT isFnO callOf callVC_fn condC_true
attribute [local simp] condC_false beginT_mk beginX_mk AOpsX_zero thenT_mk pickE pickT isT loose namesOf namesV names1
attribute [local simp] names0 stableN sameAt Op.operands Call.operands
theorem addNew {an:List AndD} {a b:Int} (h:addM an a b=true):addN an a b≠[]:=by unfold addN;rw[if_pos h];simp
theorem addSame {an:List AndD} {a b:Int} (h:addM an a b=false):addN an a b=an:=by unfold addN;rw[if_neg (by simp[h])]
def fwL (I:Int) (an:List AndD) (pl:List Int) (sl:List Slot):List Slot :=
 if an=[] then sl.set 5 (.arr 3 true (pl.map (e1 eInt))) else (sl.set 5 (.arr 3 true (pl.map (e1 eInt)))).set 4 (.var 28 [.d (.int .i64 I),.ref 7,.ref 8,.nil 3])++[.arr 60 true (an.map enAnd)]
theorem fwL_nil {I:Int} {pl:List Int} {sl:List Slot}:fwL I [] pl sl=sl.set 5 (.arr 3 true (pl.map (e1 eInt))):=by simp[fwL]
theorem fwL_cons {I:Int} {an:List AndD} {pl:List Int} {sl:List Slot} (h:an≠[]):fwL I an pl sl=(sl.set 5 (.arr 3 true (pl.map (e1 eInt)))).set 4 (.var 28 [.d (.int .i64 I),.ref 7,.ref 8,.nil 3])++[.arr 60 true (an.map enAnd)]:=by simp[fwL,h]
abbrev fwR (x:GrD) (k:Int) (j:Nat):List Int×List AndD×Bool:=impR x (firstG x+1:Nat) k (2*(firstG x:Int)) (leafL (firstG x)) [] j
theorem fwR_step {x:GrD} {k:Int} {j:Nat} {to:List Int} {an:List AndD} (h:fwR x k j=(to,an,true)) {a b:Int} (ha:a=plMapV to (andAt x (firstG x+j)).1) (hb:b=plMapV to (andAt x (firstG x+j)).2) :
 fwR x k (j+1)=if (j:Int)=k then (to++[2*(firstG x:Int)],an,true) else if addV (firstG x+1:Nat) an a b<0 then (to,an,false) else (to++[addV (firstG x+1:Nat) an a b],addN an a b,true):=by
 change impR x (firstG x+1:Nat) k (2*(firstG x:Int)) (leafL (firstG x)) [] j=(to,an,true) at h
 show impR x (firstG x+1:Nat) k (2*(firstG x:Int)) (leafL (firstG x)) [] (j+1)=_
 unfold impR
 rw[h,ha,hb]
 simp
theorem fwR_false {x:GrD} {k:Int} {j:Nat} (h:(fwR x k j).2.2=false):∀ d:Nat,(fwR x k (j+d)).2.2=false
 | 0=>h
 | d+1=>by
   have ih:=fwR_false h d
   show (impR x (firstG x+1:Nat) k (2*(firstG x:Int)) (leafL (firstG x)) [] (j+d+1)).2.2=false
   unfold impR
   rw[if_pos ih]
   exact ih
set_option maxRecDepth 100000 in
set_option maxHeartbeats 8000000 in
theorem forward_yes (x:GrD) (kn:Nat) (hx:fitGr 1048576 x) (hfront:frontB x (kn:Int)=true):ConT Try.prog 30 [vgr x,.d (.int .i64 (kn:Int))] [] (.tup [vgr (if fwdOkB x (kn:Int)=true then fwdG x (kn:Int) else x),.d (.bool (fwdOkB x (kn:Int)))]) []:=by
 have kcopy:=iCopyNet_conT x hx
 have kok:=iNetOk_con x hx
 obtain⟨hok,hk,c1,c2,c3⟩:=frontB_of hfront
 have hO:fwdOkB x (kn:Int)=((fwdImp x (kn:Int)).2.2&&decide (0≤fwdV x (kn:Int))):=by
  show (frontB x (kn:Int)&&((fwdImp x (kn:Int)).2.2&&decide (0≤fwdV x (kn:Int))))=_
  rw[hfront,Bool.true_and]
 obtain⟨G,hG⟩:∃ G,(if fwdOkB x (kn:Int)=true then fwdG x (kn:Int) else x)=G:=⟨_,rfl⟩
 rw[hG]
 generalize hOO:fwdOkB x (kn:Int)=O at *
 obtain⟨f1,f2,f3,f4⟩:=id hx
 have wl:IntKind.i64.wrap ((x.2.2.1.length:Int) - 1)=(x.2.2.1.length:Int) - 1:=wrap_id (by omega) (by omega)
 have kin:=inr_con (kn:Int) 0 ((x.2.2.1.length:Int) - 1)
 rw[hok] at kok
 have hr:rng (kn:Int) 0 ((x.2.2.1.length:Int) - 1)=true:=rng_iff.2 (by omega)
 rw[hr] at kin
 obtain⟨⟨n1,n2,n3,n4,n5,n6⟩,-,-,-⟩:=netOk_of hok
 obtain⟨hF,hgl,hNi,hno⟩:=ok_sizes hok
 have hN:=grN_eq x
 have ha2:x.2.2.1[kn]? = some (andK x (kn:Int)):=(andK_at hk).1
 obtain⟨hr1,hr2⟩:=andK_rng hok hk
 have kfa:=flopOf_con x (andK x (kn:Int)).1 ⟨n1,n2⟩ n3 (by omega)
 have kfb:=flopOf_con x (andK x (kn:Int)).2 ⟨n1,n2⟩ n3 (by omega)
 obtain⟨ra1,ra2,-⟩:=flopL_rng (x:=x) (l:=(andK x (kn:Int)).1)
 obtain⟨rb1,rb2,-⟩:=flopL_rng (x:=x) (l:=(andK x (kn:Int)).2)
 have hLA:(enAnd (andK x (kn:Int))).length=2:=rfl
 have kem:=emptyCopy_conT x hx (by omega)
 have klf:=leafLits_con x hx hok
 obtain⟨qa,hqa,qa1,qa2,ia1,ia2⟩:=flop_in hok c1
 obtain⟨qb,hqb,qb1,qb2,ib1,ib2⟩:=flop_in hok c2
 have hini:fwdInit x (kn:Int)=and64 (xor64 (seqAt x (flopL x (andK x (kn:Int)).1).toNat).2.1 ((andK x (kn:Int)).1 % 2)) (xor64 (seqAt x (flopL x (andK x (kn:Int)).2).toNat).2.1 ((andK x (kn:Int)).2 % 2)):=rfl
 have m1:and64 (andK x (kn:Int)).1 1=(andK x (kn:Int)).1 % 2:=and64_one _
 have m2:and64 (andK x (kn:Int)).2 1=(andK x (kn:Int)).2 % 2:=and64_one _
 have wo:IntKind.i64.wrap (2*(1+x.1+(x.2.1.length:Int)))=2*(firstG x:Int):=by rw[wrap_id (by omega) (by omega)];omega
 obtain⟨fan,hfan⟩:∃ n:Nat,flopL x (andK x (kn:Int)).1=n:=⟨(flopL x (andK x (kn:Int)).1).toNat,by omega⟩
 obtain⟨fbn,hfbn⟩:∃ n:Nat,flopL x (andK x (kn:Int)).2=n:=⟨(flopL x (andK x (kn:Int)).2).toNat,by omega⟩
 rw[hfan] at kfa hini hqa ia1 ia2 ra2
 rw[hfbn] at kfb hini hqb ib1 ib2 rb2
 rw[Int.toNat_natCast] at hini hqa hqb ia1 ia2 ib1 ib2
 rw[Int.toNat_natCast] at hini
 have hsa:=(seqAt_mem (x:=x) (i:=fan) (by omega)).1
 have hsb:=(seqAt_mem (x:=x) (i:=fbn) (by omega)).1
 have hLsa:(enSeq (seqAt x fan)).length=3:=rfl
 have hLsb:(enSeq (seqAt x fbn)).length=3:=rfl
 refine conT_ofD (by kernel_rfl) Try.func30 rfl rfl rfl (by simp[laters,Later]) (by simp[lives,Slot.live]) ?_
 simp[enGr]
 refine call_step (kok) ?_
 simp[enGr,wl]
 refine call_step (kin) ?_
 simp[ha2,hLA,enAnd]
 refine drawD_of 10 (by kernel_rfl) ?_
 simp[enGr]
 refine call_step (kfa) ?_
 simp[enGr]
 refine call_step (kfb) ?_
 simp[enGr]
 simp[show (x.2.1.length:Int)<12 by omega,show ¬ (12:Int)≤(x.2.1.length:Int) by omega]
 refine callT_step (kem) [] [] (by simp) ?_
 simp
 refine call_step (klf) ?_
 simp[enGr]
 refine call_step (firstAnd_con x ⟨n1,n2⟩ n3) ?_
 simp[wo]
 refine drawD_of 25 (by kernel_rfl) ?_
 simp[hsa,hsb,hLsa,hLsb,enSeq,m1,m2,←hini]
 have hb:=fwdInit_bit hfront
 have hcm:x.2.1.map (enSeq ∘ nilSeq)=(x.2.1.map nilSeq).map enSeq:=by rw[List.map_map]
 have hzl:(x.2.1.map nilSeq).length=x.2.1.length:=by simp
 have hfa':1+x.1+(((x.2.1.map nilSeq)++[lastOf (fwdInit x (kn:Int))]).length:Int)=((firstG x+1:Nat):Int):=by rw[List.length_append,hzl];simp;omega
 have hs12:((x.2.1.map nilSeq)++[lastOf (fwdInit x (kn:Int))]).length≤12:=by rw[List.length_append,hzl];simp;omega
 have hse:x.2.1.map (enSeq ∘ nilSeq)++[[D.int .i64 0,D.int .i64 (fwdInit x (kn:Int)),D.sl 3 []]]=((x.2.1.map nilSeq)++[lastOf (fwdInit x (kn:Int))]).map enSeq:=by simp[lastOf,enSeq,e3,eInt,eSl]
 have hs26:∀ v:Int,(((x.2.1.map nilSeq)++[lastOf (fwdInit x (kn:Int))]).map enSeq).set x.2.1.length [D.int .i64 0,D.int .i64 (fwdInit x (kn:Int)),D.sl 3 [[D.int .i64 v]]]=((x.2.1.map nilSeq)++[(0,fwdInit x (kn:Int),[v])]).map enSeq:=fun v=>by
  rw[List.map_append,List.map_append,List.set_append_right _ _ (by simp)]
  simp[lastOf,enSeq,e3,eInt,eSl,e1]
 have hs26a:((x.2.1.map nilSeq)++[lastOf (fwdInit x (kn:Int))])[x.2.1.length]? = some (lastOf (fwdInit x (kn:Int))):=by rw[List.getElem?_append_right (by simp)];simp
 first | refine app_lit (q:=1) vt_el_24 (by exact rfl) (by simp) (by exact rfl) (by exact rfl) (by simp) (by simp) (by first | (simp;done)|(simp;omega)) ?_|refine app_row vt_el_24 (by exact rfl) (by simp) (by exact rfl) (by simp) (by first | (simp;done)|(simp;omega)) ?_
 simp
 rw[hse]
 have hGG:fwdOkB x (kn:Int)=O:=hOO
 have hI:=fun j hj=>fwdImp_ok hfront j hj
 have hI20:0≤x.1∧x.1≤20:=⟨n1,n2⟩
 generalize hsq:(x.2.1.map nilSeq)++[lastOf (fwdInit x (kn:Int))]=sq at *
 obtain⟨ow,how⟩:∃ ow:Int,ow=2*(firstG x:Int):=⟨_,rfl⟩
 rw[←how]
 refine aw_loopN [false,true,true,false,true,false,true,true,true,true,true,true,false,false,false,false,false,false,false,false,false,false,false,false,false,false,false,false,false,false,false,false,false,false,false,false,false,false,false,false,false,false,false,false,false,false,false,false,false,false,false,false,false,false,false,false,false,false,false,false,false,false,false,false,false,false,false,false,false,false,false,false,false,false,false,false,false,false,false,false,false,false,false,false,false,false,false,false,false,false,false,false,false,false,true,true,true,false,false,false,false,false,false,false,false,false,false,false,false,false,false,false,false,false,false,false,false,false,false,false,false,false,false,false,false,false,false,false,false,false,false,false,false,false,false,false,false,false,false,false,false,false,false,false,false,false,false,false,false,false,false,false,false,false,false,false,false,false,false,false,false,false,false,false,false,false,false,false,false,false,false,false,false,false] (fun j:Nat=>j≤x.2.2.1.length∧(fwR x (kn:Int) j).2.2=true) (fun j:Nat=>[(96,.d (.int .i64 j))]) (fun j:Nat=>fwL x.1 (fwR x (kn:Int) j).2.1 (padL (fwR x (kn:Int) j).1 (grN x))) (fun j:Nat=>x.2.2.1.length - j) 0 ?_ ?_ ?_
 · exact⟨Nat.zero_le _,rfl⟩
 · exact⟨[0,1,2,3,4,5,6,7],by simp[impR,fwL_nil]⟩
 rintro J2 S2 μ2 hJ2 hS2 hμ2 j ⟨hj,hjo⟩
 have q1:=hI j hj
 obtain⟨⟨to,an,bb⟩,hst⟩:∃ s,fwR x (kn:Int) j=s:=⟨_,rfl⟩
 rw[hst] at hjo
 change ImpOk _ _ (fwR x (kn:Int) j) at q1
 rw[hst] at q1
 simp only at hjo
 obtain rfl:bb=true:=hjo
 have hl:=q1.len rfl
 have hpl:=q1.pl
 have ha3:=q1.an
 simp only at hl hpl ha3
 rw[hst]
 by_cases hlt:j<x.2.2.1.length
 case pos =>
  obtain⟨hA,a1,a2,a3,a4,a5,a6⟩:=and_at hok (v:=firstG x+j) (by omega) (by omega)
  rw[Nat.add_sub_cancel_left] at hA
  have hstp:=fwR_step hst (a:=plMapV to (andAt x (firstG x+j)).1) (b:=plMapV to (andAt x (firstG x+j)).2) rfl rfl
  generalize andAt x (firstG x+j)=A at *
  have hL:(enAnd A).length=2:=rfl
  have r1:=mapV_rng (l:=A.1) (plIn_at hpl (by omega) (A.1 / 2)) (by omega)
  have r2:=mapV_rng (l:=A.2) (plIn_at hpl (by omega) (A.2 / 2)) (by omega)
  have hplen:=padL_len (p:=to) (n:=grN x) (by omega)
  have kA:=mapLit_con (padL to (grN x)) A.1 (by omega) (by omega)
  have kB:=mapLit_con (padL to (grN x)) A.2 (by omega) (by omega)
  rw[mapV_pad (by omega)] at kA kB
  have hset:=fun v:Int=>padL_setD (p:=to) (n:=grN x) (v:=v) (by omega)
  have hat:(padL to (grN x))[to.length]? = some (atI (padL to (grN x)) to.length):=at_read (k:=to.length) (by omega)
  have w5:IntKind.i64.wrap (1+x.1+(x.2.1.length:Int)+(j:Int))=(to.length:Int):=by rw[wrap_id (by omega) (by omega)];omega
  have w6:IntKind.i64.wrap ((j:Int)+1)=(j:Int)+1:=wrap_id (by omega) (by omega)
  generalize plMapV to A.1=x1 at *
  generalize plMapV to A.2=x2 at *
  have hneg:=addV_neg (fa:=(firstG x+1:Nat)) (an:=an) (a:=x1) (b:=x2) (by omega) (by omega) (by omega)
  generalize atI (padL to (grN x)) to.length=pv at *
  have hbad:addV (firstG x+1:Nat) an x1 x2<0→(j:Int)≠(kn:Int)→O=false∧G=x:=fun hv hjk=>by
   rw[if_neg hjk,if_pos hv] at hstp
   have hff:=fwR_false (show (fwR x (kn:Int) (j+1)).2.2=false by rw[hstp]) (x.2.2.1.length - (j+1))
   rw[show j+1+(x.2.2.1.length - (j+1))=x.2.2.1.length by omega] at hff
   have hff2:(fwdImp x (kn:Int)).2.2=false:=hff
   rw[hff2,Bool.false_and] at hO
   exact⟨hO,by rw[←hG,hO];simp⟩
  by_cases hne:an=[]
  · subst hne
    rw[fwL_nil]
    by_cases hjk:(j:Int)=(kn:Int)
    · rw[if_pos hjk] at hstp
      have hne2:((j:Int) != (kn:Int))=false:=by simp[hjk]
      have how2:=hset ow
      rw[←how] at hstp
      simp[decide_eq_true hlt,hA,hL,enAnd,hne2,show ¬ ow<0 by omega,decide_eq_false (show ¬ ow<0 by omega)]
      refine call_step (firstAnd_con x ⟨n1,n2⟩ n3) ?_
      simp[w5,w6,how2,hat,enGr]
      exact round_of hJ2 hS2 hμ2 (j+1) ⟨by omega,by rw[hstp]⟩ (by omega) ⟨[0,1,2,3,4,5,6,7],by simp[hstp,fwL_nil]⟩
    have hne2:((j:Int) != (kn:Int))=true:=by simp;omega
    rw[if_neg hjk] at hstp
    cases hm:addM [] x1 x2
    · have c:=addAnd_same_sn x.1 (firstG x+1:Nat) sq x1 x2 hI20 hfa' hs12 (by omega) (by omega) hm
      rw[addSame hm] at hstp
      generalize hvv:addV (firstG x+1:Nat) [] x1 x2=v at *
      simp[decide_eq_true hlt,hA,hL,enAnd,hne2]
      refine drawD_of 8 (by kernel_rfl) ?_
      simp
      refine call_step (kA) ?_
      simp
      refine call_step (kB) ?_
      simp
      refine callT_step (c) [] [4,7] (by simp) ?_
      simp
      by_cases hv:v<0
      · obtain⟨hO2,hG2⟩:=hbad hv hjk
        rw[hO2,hG2]
        simp[hv,decide_eq_true hv,show ¬ 0≤v by omega]
        refine callT_step (kcopy) [] [] (by simp) ?_
        simp
        exact⟨[],by simp⟩
      rw[if_neg hv] at hstp
      simp[hv,decide_eq_false hv,show 0≤v by omega]
      refine call_step (firstAnd_con x ⟨n1,n2⟩ n3) ?_
      simp[w5,w6,hset,hat,enGr]
      exact round_of hJ2 hS2 hμ2 (j+1) ⟨by omega,by rw[hstp]⟩ (by omega) ⟨[0,1,2,3,4,5,6,7],by simp[hstp,fwL_nil]⟩
    · have c:=addAnd_new_sn x.1 (firstG x+1:Nat) sq x1 x2 hI20 hfa' hs12 (by omega) (by omega) hm
      generalize hvv:addV (firstG x+1:Nat) [] x1 x2=v at *
      simp[decide_eq_true hlt,hA,hL,enAnd,hne2]
      refine drawD_of 8 (by kernel_rfl) ?_
      simp
      refine call_step (kA) ?_
      simp
      refine call_step (kB) ?_
      simp
      refine callT_step (c) [] [4,7] (by simp) ?_
      simp
      by_cases hv:v<0
      · obtain⟨hO2,hG2⟩:=hbad hv hjk
        rw[hO2,hG2]
        simp[hv,decide_eq_true hv,show ¬ 0≤v by omega]
        refine callT_step (kcopy) [] [] (by simp) ?_
        simp
        exact⟨[],by simp⟩
      rw[if_neg hv] at hstp
      simp[hv,decide_eq_false hv,show 0≤v by omega]
      refine call_step (firstAnd_con x ⟨n1,n2⟩ n3) ?_
      simp[w5,w6,hset,hat,enGr]
      exact round_of hJ2 hS2 hμ2 (j+1) ⟨by omega,by rw[hstp]⟩ (by omega) ⟨[0,1,2,3,4,5,6,7,9],by simp[hstp,fwL_cons (addNew hm)]⟩
  · rw[fwL_cons hne]
    by_cases hjk:(j:Int)=(kn:Int)
    · rw[if_pos hjk] at hstp
      have hne2:((j:Int) != (kn:Int))=false:=by simp[hjk]
      have how2:=hset ow
      rw[←how] at hstp
      simp[decide_eq_true hlt,hA,hL,enAnd,hne2,show ¬ ow<0 by omega,decide_eq_false (show ¬ ow<0 by omega)]
      refine call_step (firstAnd_con x ⟨n1,n2⟩ n3) ?_
      simp[w5,w6,how2,hat,enGr]
      exact round_of hJ2 hS2 hμ2 (j+1) ⟨by omega,by rw[hstp]⟩ (by omega) ⟨[0,1,2,3,4,5,6,7,8],by simp[hstp,fwL_cons hne]⟩
    have hne2:((j:Int) != (kn:Int))=true:=by simp;omega
    rw[if_neg hjk] at hstp
    cases hm:addM an x1 x2
    · have c:=addAnd_same_sa x.1 (firstG x+1:Nat) sq an x1 x2 hI20 hfa' hs12 ha3 (by omega) (by omega) hm
      rw[addSame hm] at hstp
      generalize hvv:addV (firstG x+1:Nat) an x1 x2=v at *
      simp[decide_eq_true hlt,hA,hL,enAnd,hne2]
      refine drawD_of 8 (by kernel_rfl) ?_
      simp
      refine call_step (kA) ?_
      simp
      refine call_step (kB) ?_
      simp
      refine callT_step (c) [] [4,7,8] (by simp) ?_
      simp
      by_cases hv:v<0
      · obtain⟨hO2,hG2⟩:=hbad hv hjk
        rw[hO2,hG2]
        simp[hv,decide_eq_true hv,show ¬ 0≤v by omega]
        refine callT_step (kcopy) [] [] (by simp) ?_
        simp
        exact⟨[],by simp⟩
      rw[if_neg hv] at hstp
      simp[hv,decide_eq_false hv,show 0≤v by omega]
      refine call_step (firstAnd_con x ⟨n1,n2⟩ n3) ?_
      simp[w5,w6,hset,hat,enGr]
      exact round_of hJ2 hS2 hμ2 (j+1) ⟨by omega,by rw[hstp]⟩ (by omega) ⟨[0,1,2,3,4,5,6,7,8],by simp[hstp,fwL_cons hne]⟩
    · have c:=addAnd_new_sa x.1 (firstG x+1:Nat) sq an x1 x2 hI20 hfa' hs12 ha3 (by omega) (by omega) hm
      generalize hvv:addV (firstG x+1:Nat) an x1 x2=v at *
      simp[decide_eq_true hlt,hA,hL,enAnd,hne2]
      refine drawD_of 8 (by kernel_rfl) ?_
      simp
      refine call_step (kA) ?_
      simp
      refine call_step (kB) ?_
      simp
      refine callT_step (c) [] [4,7,8] (by simp) ?_
      simp
      by_cases hv:v<0
      · obtain⟨hO2,hG2⟩:=hbad hv hjk
        rw[hO2,hG2]
        simp[hv,decide_eq_true hv,show ¬ 0≤v by omega]
        refine callT_step (kcopy) [] [] (by simp) ?_
        simp
        exact⟨[],by simp⟩
      rw[if_neg hv] at hstp
      simp[hv,decide_eq_false hv,show 0≤v by omega]
      refine call_step (firstAnd_con x ⟨n1,n2⟩ n3) ?_
      simp[w5,w6,hset,hat,enGr]
      exact round_of hJ2 hS2 hμ2 (j+1) ⟨by omega,by rw[hstp]⟩ (by omega) ⟨[0,1,2,3,4,5,6,7,10],by simp[hstp,fwL_cons (addNew hm)]⟩
 obtain rfl:j=x.2.2.1.length:=by omega
 have hR:fwdImp x (kn:Int)=(to,an,true):=hst
 obtain⟨la1,la2,la3,la4⟩:=fwdLit_rng hfront (by rw[hR]) c1
 obtain⟨lb1,lb2,lb3,lb4⟩:=fwdLit_rng hfront (by rw[hR]) c2
 have hla:xor64 (plMapV to qa) ((andK x (kn:Int)).1 % 2)=fwdLit x (kn:Int) (andK x (kn:Int)).1:=by unfold fwdLit;rw[hfan,Int.toNat_natCast,hqa,hR];rfl
 have hlb:xor64 (plMapV to qb) ((andK x (kn:Int)).2 % 2)=fwdLit x (kn:Int) (andK x (kn:Int)).2:=by unfold fwdLit;rw[hfbn,Int.toNat_natCast,hqb,hR];rfl
 have hfv:fwdV x (kn:Int)=addV (firstG x+1:Nat) an (fwdLit x (kn:Int) (andK x (kn:Int)).1) (fwdLit x (kn:Int) (andK x (kn:Int)).2):=by unfold fwdV;rw[hR]
 have hGv:fwdG x (kn:Int)=(x.1,x.2.1.map (mapSeq to)++[(0,fwdInit x (kn:Int),[fwdV x (kn:Int)])],addN an (fwdLit x (kn:Int) (andK x (kn:Int)).1) (fwdLit x (kn:Int) (andK x (kn:Int)).2),x.2.2.2.map (plMapV to)):=by unfold fwdG;rw[hR]
 rw[hR] at la2 lb2 hO
 rw[hfv] at hO hGv
 simp only[Bool.true_and] at hO
 have hlen0:to.length=grN x:=by omega
 rw[padL_all hlen0]
 have kA:=mapLit_con to qa (by omega) (by omega)
 have kB:=mapLit_con to qb (by omega) (by omega)
 generalize fwdLit x (kn:Int) (andK x (kn:Int)).1=la at *
 generalize fwdLit x (kn:Int) (andK x (kn:Int)).2=lb at *
 simp only at la2 lb2
 obtain⟨-,-,o2,-⟩:=netOk_of hok
 have hlS:∀ s∈x.2.1,litsAt to.length s.2.2:=fun s hs l hl=>by
  have:=o2 l (List.mem_append_right _ (List.mem_flatten.2 ⟨_,List.mem_map.2 ⟨s,hs,rfl⟩,hl⟩))
  omega
 have hlO:litsAt to.length x.2.2.2:=fun l hl=>by
  have:=o2 l (outs_root hl)
  omega
 by_cases hne:an=[]
 · subst hne
   rw[fwL_nil]
   simp[decide_eq_false hlt,hlt]
   refine drawD_of 15 (by kernel_rfl) ?_
   simp[hsa,hLsa,enSeq,hqa]
   refine call_step (kA) ?_
   simp[m1,hla]
   refine drawD_of 15 (by kernel_rfl) ?_
   simp[hsb,hLsb,enSeq,hqb]
   refine call_step (kB) ?_
   simp[m2,hlb]
   cases hm:addM [] la lb
   · have c:=addAnd_same_sn x.1 (firstG x+1:Nat) sq la lb hI20 hfa' hs12 (by omega) (by omega) hm
     rw[addSame hm] at hGv
     generalize hvv:addV (firstG x+1:Nat) [] la lb=v at *
     refine callT_step (c) [] [4,7] (by simp) ?_
     simp
     by_cases hv:v<0
     · have hO2:O=false:=by rw[hO];simp;omega
       have hG2:G=x:=by rw[←hG,hO2];simp
       rw[hO2,hG2]
       simp[hv,decide_eq_true hv,show ¬ 0≤v by omega]
       refine callT_step (kcopy) [] [] (by simp) ?_
       simp
       exact⟨[],by simp⟩
     have hO2:O=true:=by rw[hO];simp;omega
     have hG2:G=fwdG x (kn:Int):=by rw[←hG,hO2];simp
     rw[hO2,hG2,hGv]
     have kr:=copyRoots_n x to (0,fwdInit x (kn:Int),[v]) hx (by omega) hlS hlO
     have hsv:=hs26 v
     simp[hv,decide_eq_false hv,show 0≤v by omega,hs26a,lastOf,enSeq,e3,eInt,eSl,hsv]
     refine callT_step (kr) [5] [4,7] (by simp[enSeq,e3,eInt,eSl,e1]) ?_
     simp
     exact⟨[],by simp[hGv]⟩
   · have c:=addAnd_new_sn x.1 (firstG x+1:Nat) sq la lb hI20 hfa' hs12 (by omega) (by omega) hm
     generalize hvv:addV (firstG x+1:Nat) [] la lb=v at *
     refine callT_step (c) [] [4,7] (by simp) ?_
     simp
     by_cases hv:v<0
     · have hO2:O=false:=by rw[hO];simp;omega
       have hG2:G=x:=by rw[←hG,hO2];simp
       rw[hO2,hG2]
       simp[hv,decide_eq_true hv,show ¬ 0≤v by omega]
       refine callT_step (kcopy) [] [] (by simp) ?_
       simp
       exact⟨[],by simp⟩
     have hO2:O=true:=by rw[hO];simp;omega
     have hG2:G=fwdG x (kn:Int):=by rw[←hG,hO2];simp
     rw[hO2,hG2,hGv]
     have kr:=copyRoots_a x to (0,fwdInit x (kn:Int),[v]) (addN [] la lb) hx (by omega) hlS hlO
     have hsv:=hs26 v
     simp[hv,decide_eq_false hv,show 0≤v by omega,hs26a,lastOf,enSeq,e3,eInt,eSl,hsv]
     refine callT_step (kr) [5] [4,7,8] (by simp[enSeq,e3,eInt,eSl,e1]) ?_
     simp
     exact⟨[],by simp[hGv]⟩
 · rw[fwL_cons hne]
   simp[decide_eq_false hlt,hlt]
   refine drawD_of 15 (by kernel_rfl) ?_
   simp[hsa,hLsa,enSeq,hqa]
   refine call_step (kA) ?_
   simp[m1,hla]
   refine drawD_of 15 (by kernel_rfl) ?_
   simp[hsb,hLsb,enSeq,hqb]
   refine call_step (kB) ?_
   simp[m2,hlb]
   cases hm:addM an la lb
   · have c:=addAnd_same_sa x.1 (firstG x+1:Nat) sq an la lb hI20 hfa' hs12 ha3 (by omega) (by omega) hm
     rw[addSame hm] at hGv
     generalize hvv:addV (firstG x+1:Nat) an la lb=v at *
     refine callT_step (c) [] [4,7,8] (by simp) ?_
     simp
     by_cases hv:v<0
     · have hO2:O=false:=by rw[hO];simp;omega
       have hG2:G=x:=by rw[←hG,hO2];simp
       rw[hO2,hG2]
       simp[hv,decide_eq_true hv,show ¬ 0≤v by omega]
       refine callT_step (kcopy) [] [] (by simp) ?_
       simp
       exact⟨[],by simp⟩
     have hO2:O=true:=by rw[hO];simp;omega
     have hG2:G=fwdG x (kn:Int):=by rw[←hG,hO2];simp
     rw[hO2,hG2,hGv]
     have kr:=copyRoots_a x to (0,fwdInit x (kn:Int),[v]) an hx (by omega) hlS hlO
     have hsv:=hs26 v
     simp[hv,decide_eq_false hv,show 0≤v by omega,hs26a,lastOf,enSeq,e3,eInt,eSl,hsv]
     refine callT_step (kr) [5] [4,7,8] (by simp[enSeq,e3,eInt,eSl,e1]) ?_
     simp
     exact⟨[],by simp[hGv]⟩
   · have c:=addAnd_new_sa x.1 (firstG x+1:Nat) sq an la lb hI20 hfa' hs12 ha3 (by omega) (by omega) hm
     generalize hvv:addV (firstG x+1:Nat) an la lb=v at *
     refine callT_step (c) [] [4,7,8] (by simp) ?_
     simp
     by_cases hv:v<0
     · have hO2:O=false:=by rw[hO];simp;omega
       have hG2:G=x:=by rw[←hG,hO2];simp
       rw[hO2,hG2]
       simp[hv,decide_eq_true hv,show ¬ 0≤v by omega]
       refine callT_step (kcopy) [] [] (by simp) ?_
       simp
       exact⟨[],by simp⟩
     have hO2:O=true:=by rw[hO];simp;omega
     have hG2:G=fwdG x (kn:Int):=by rw[←hG,hO2];simp
     rw[hO2,hG2,hGv]
     have kr:=copyRoots_a x to (0,fwdInit x (kn:Int),[v]) (addN an la lb) hx (by omega) hlS hlO
     have hsv:=hs26 v
     simp[hv,decide_eq_false hv,show 0≤v by omega,hs26a,lastOf,enSeq,e3,eInt,eSl,hsv]
     refine callT_step (kr) [5] [4,7,9] (by simp[enSeq,e3,eInt,eSl,e1]) ?_
     simp
     exact⟨[],by simp[hGv]⟩
end Go.Proofs.Ytnjedabjbeipeaa
