/-
  A cycle of a graph; states by links, by abstract walks.
  Conditions: those typed in each theorem.
-/
import Derived.Test.YtnjedabjbeipeaaNx
import Derived.Test.YtnjedabjbeipeaaNm
namespace Go.Proofs.Ytnjedabjbeipeaa
open Go.RowKit Go.ChangeShapes Go.WideShapes
set_option linter.unusedVariables false
set_option linter.unusedSimpArgs false
attribute [local simp ↓] condG_true condG_false condB_true condB_false
attribute [local simp] AWp_skip AWp_region_t AWp_region_d AWp_region_f still_mk AWp_seq AWp_cond condV_bool condB AWp_block AWp_exit AWp_ret
attribute [local simp] AOps_nil AOp_move AOp_assign AOp_pick AOp_binOp AOp_unOp AOp_convert AOp_len AOp_max AOp_min AOp_indexAddr AOp_load
attribute [local simp] AOp_fieldAddr AOp_field AOp_extract AOp_nilCheck AOp_build AOp_alloc AOp_box AOp_call AOp_store AOp_append AOp_buildSlice nextB_some
attribute [local simp] nextB_none adoptO adoptC AOp_makeSlice AOp_slice AOp_makeFunc AOp_guard guardD_some guardG_bool guardG_undef nextO_some nextS_some
attribute [local simp] nextZ_some nextL_some nextM_some nextT_some sliceO sliceL sliceT partO partV boundV funcO pickO
attribute [local simp] convO lenO maxO minO idxO extO nilO buildO litO litC makeO chunks
attribute [local simp] fillV placeOf thenA inBlockA St.get St.put St.eval ofCell evalT abin_add abin_sub abin_mul
attribute [local simp] abin_quo abin_rem abin_and abin_or abin_xor abin_andNot abin_shl abin_shr abin_shlu abin_eql abin_eqp abin_neq
attribute [local simp] abin_lss abin_leq abin_gtr abin_geq abin_eqlb abin_neqb aun pickV lenV intOf? indexV takeD
attribute [local simp] takeV loadV fieldAddrV fieldV ofX presD presDs pres presAll cellsV V.cell storeV
attribute [local simp] freezeC putAt kill takeC plains plainV scalarV nat_neg keepT sets eSl e1
attribute [local simp] e2 e3 e4 eInt eBool abinS_d abinS_agg abinS nilEq abin_eqb AOp_makeMap AOp_lookup
attribute [local simp] AOp_mapUpdate lookG_some updG_some mapV kyOf vlOf lookV vlV buildA afterCall inst inst1
attribute [local simp] inst1s instD instDs RetA resVs resV gives give1 give1s Le isPin leSlots
attribute [local simp] leS leTmps leV le0 le0s ren ren0 renS ren0s frame enterT afterT_some
attribute [local simp] afterC_some lives Slot.live arrsOk viewV view0 renT rens renSs setAll List.range'_succ RetT
attribute [local simp] RetW joinV leT AOpsE_nil AOpsE_cons AOpsT_nil AOpsT_cons isCallT isFnO callOf callVC_fn condC_true
attribute [local simp] condC_false beginT_mk beginX_mk AOpsX_zero thenT_mk pickE pickT isT loose namesOf namesV names1
attribute [local simp] names0 stableN sameAt Op.operands Call.operands
def nxF (vals:List Int) (p:SeqD×Int):Int:=seqNextL p.1.1 p.2 (packL (p.1.2.2.map (litL vals)))
def nxtG (x:GrD) (st vals:List Int):List Int:=(x.2.1.zip st).map (nxF vals)
def outG (x:GrD) (vals:List Int):Int:=packL (x.2.2.2.map (litL vals))
def stepG (x:GrD) (st:List Int) (inp:Int):List Int×Int:=(nxtG x st (valsL x st inp),outG x (valsL x st inp))
theorem litsIn_outs {x:GrD} {vals:List Int} (h:∀ y∈grRoots x,0≤y∧y<2*(grN x:Int)) (hl:vals.length=grN x):litsIn vals x.2.2.2:=fun y hy=>by
 rw[hl]
 exact h y (List.mem_append.2 (.inl hy))
theorem litsIn_seq {x:GrD} {vals:List Int} (h:∀ y∈grRoots x,0≤y∧y<2*(grN x:Int)) (hl:vals.length=grN x) {s:SeqD} (hs:s∈x.2.1):litsIn vals s.2.2:=fun y hy=>by
 rw[hl]
 exact h y (List.mem_append.2 (.inr (List.mem_flatten.2 ⟨s.2.2,List.mem_map_of_mem hs,hy⟩)))
set_option maxRecDepth 100000 in
set_option maxHeartbeats 1000000 in
theorem netStep_con (x:GrD) (st:List Int) (inp:Int) (hx:fitGr 1048576 x) (hok:netOkB x=true) (hs:st.length=x.2.1.length):ConC Try.prog 40 [igr x,ints st,.d (.int .i64 inp)] (.tup [ints (stepG x st inp).1,.d (.int .i64 (stepG x st inp).2)]):=by
 obtain⟨⟨n1,n2,n3,n4,n5,n6⟩,o1,o2,o3⟩:=netOk_of hok
 have hN:grN x=1+x.1.toNat+x.2.1.length+x.2.2.1.length:=rfl
 show ConC Try.prog 40 [igr x,ints st,.d (.int .i64 inp)] (.tup [ints (nxtG x st (valsL x st inp)),.d (.int .i64 (outG x (valsL x st inp)))])
 refine con_of (by kernel_rfl) Try.func40 rfl rfl rfl ?_
 simp[enGr]
 refine call_step (nodeValues_con x st inp hx hok hs) ?_
 simp
 have hvl:(valsL x st inp).length=grN x:=valsL_len
 have hvb:bitsI (valsL x st inp):=valsL_bits
 generalize valsL x st inp=vals at *
 have hsl:nxtG x st vals=(nxtG x st vals).take x.2.1.length:=by rw[List.take_of_length_le (by simp[nxtG];omega)]
 rw[hsl]
 refine aw_loopN [false,true,false,true,false,false,false,false,true,true,false,false,false,false,false,false,false,true,true,true,false,false,false,false,false,false,false,false,false,false,false,false,false,false,false,false,false,false,false,false,false,false,false,false] (fun k:Nat=>k≤x.2.1.length) (fun k:Nat=>[(9,nilR k 2),(19,.d (.int .i64 k))]) (fun k:Nat=>nilS k ((nxtG x st vals).take k)) (fun k:Nat=>x.2.1.length - k) 0 ?_ ?_ ?_
 · simp
 · exact⟨[0,1],by simp[nilR,nilS]⟩
 rintro I S μ hI hS hμ k hk
 by_cases hlt:k<x.2.1.length
 · have hx1:x.2.1[k]? = some x.2.1[k]:=List.getElem?_eq_getElem hlt
   have hx2:st[k]? = some (st[k]'(by omega)):=List.getElem?_eq_getElem _
   have hL:(enSeq x.2.1[k]).length=3:=rfl
   have hzz:(x.2.1.zip st)[k]? = some (x.2.1[k],st[k]'(by omega)):=by simp[List.getElem?_zip_eq_some]
   have hnx:(nxtG x st vals).take (k+1)=(nxtG x st vals).take k++[nxF vals (x.2.1[k],st[k]'(by omega))]:=take_snoc' (by simp only[nxtG,List.getElem?_map,hzz];rfl)
   have w2:IntKind.i64.wrap ((k:Int)+1)=(k:Int)+1:=wrap_id (by omega) (by omega)
   have hli:=litsIn_seq o2 hvl (List.getElem_mem hlt)
   have hl4:=seqOk_len (o1 _ (List.getElem_mem hlt))
   generalize x.2.1[k]=s at *
   generalize st[k]'(by omega)=v at *
   have hd:decide (k<x.2.1.length)=true:=decide_eq_true hlt
   have hd':decide (k<st.length)=true:=decide_eq_true (by omega)
   have hf:seqNextL s.1 v (packL (s.2.2.map (litL vals)))=nxF vals (s,v):=rfl
   by_cases hk0:k=0
   · subst hk0
     have w20:IntKind.i64.wrap 1=1:=by decide
     simp[nilR,nilS,hd,hd',hx1,hx2,hL,enSeq]
     refine⟨by kernel_rfl,?_⟩
     refine call_step (packLits_con vals s.2.2 hvb hli (by omega) (by omega)) ?_
     simp
     refine call_step (iSeqNext_con _ _ _) ?_
     simp[hf]
     refine app_data vt_el_26 rfl (by simp) rfl (by simp) (by simp) (by first | (simp;done)|(simp;omega)) (by simp[flatP,flatD]) ?_
     simp[w20]
     exact round_of hI hS hμ 1 (by omega) (by omega) ⟨[0,1,4],by simp[nilR,nilS,hnx]⟩
   · simp[nilR,nilS,hd,hd',hx1,hx2,hL,enSeq,hk0]
     refine⟨by kernel_rfl,?_⟩
     refine call_step (packLits_con vals s.2.2 hvb hli (by omega) (by omega)) ?_
     simp
     refine call_step (iSeqNext_con _ _ _) ?_
     simp[hf]
     refine app_data vt_el_26 rfl (by simp) rfl (by simp) (by simp) (by first | (simp;done)|(simp;omega)) (by simp[flatP,flatD]) ?_
     simp[w2]
     exact round_of hI hS hμ (k+1) (by omega) (by omega) ⟨[0,1,5],by simp[nilR,nilS,hnx]⟩
 · have hk':k=x.2.1.length:=by omega
   subst hk'
   by_cases hk0:x.2.1.length=0
   · simp[nilR,nilS,hk0]
     refine call_step (packLits_con vals x.2.2.2 hvb (litsIn_outs o2 hvl) n5 (by omega)) ?_
     simp[outG]
   · simp[nilR,nilS,hk0]
     refine call_step (packLits_con vals x.2.2.2 hvb (litsIn_outs o2 hvl) n5 (by omega)) ?_
     simp[outG]
set_option maxRecDepth 100000 in
set_option maxHeartbeats 1000000 in
theorem sNetStep_con (x:GrD) (st:List Int) (inp:Int) (hx:fitGr 1048576 x) (hg:okGr x) (hso:stOkGB x st=true):ConC Try.prog 20 [igr x,ints st,.d (.int .i64 inp)] (.tup [ints (stepG x st inp).1,.d (.int .i64 (stepG x st inp).2)]):=by
 have hso':=hso
 simp only[stOkGB,Bool.and_eq_true,decide_eq_true_eq] at hso'
 obtain⟨⟨hok,hs⟩,-⟩:=hso'
 obtain⟨⟨n1,n2,n3,n4,n5,n6⟩,o1,o2,o3⟩:=netOk_of hok
 have hN:grN x=1+x.1.toNat+x.2.1.length+x.2.2.1.length:=rfl
 show ConC Try.prog 20 [igr x,ints st,.d (.int .i64 inp)] (.tup [ints (nxtG x st (valsL x st inp)),.d (.int .i64 (outG x (valsL x st inp)))])
 refine con_of (by kernel_rfl) Try.func20 rfl rfl rfl ?_
 simp[enGr]
 refine call_step (sStateOkG_con x st hx hg (by omega)) ?_
 simp[hso]
 refine call_step (sNodeValues_con x st inp hx hg hso) ?_
 simp
 have hvl:(valsL x st inp).length=grN x:=valsL_len
 have hvb:bitsI (valsL x st inp):=valsL_bits
 generalize valsL x st inp=vals at *
 have hsl:nxtG x st vals=(nxtG x st vals).take x.2.1.length:=by rw[List.take_of_length_le (by simp[nxtG];omega)]
 rw[hsl]
 refine aw_loopU [false,true,false,true,false,false,false,false,true,true,true,false,false,false,false,false,false,false,false,false,false,false,false,false,false,false,false,false,false,false,false,false,false,false,false,false,false,false,false,false,false,false,false,false,false,false,false,false,false,false,false,false,false,false,false] (fun k:Nat=>k≤x.2.1.length) (fun k:Nat=>[(8,.ref 1),(10,.d (.int .i64 k))]) (fun k:Nat=>[(1,.arr 3 true (((nxtG x st vals).take k).map (e1 eInt)))]) (fun k:Nat=>x.2.1.length - k) 0 ?_ ?_ ?_
 · simp
 · exact⟨[0,1,2],by simp⟩
 rintro I S μ hI hS hμ k hk
 by_cases hlt:k<x.2.1.length
 · have hx1:x.2.1[k]? = some x.2.1[k]:=List.getElem?_eq_getElem hlt
   have hx2:st[k]? = some (st[k]'(by omega)):=List.getElem?_eq_getElem _
   have hL:(enSeq x.2.1[k]).length=3:=rfl
   have hzz:(x.2.1.zip st)[k]? = some (x.2.1[k],st[k]'(by omega)):=by simp[List.getElem?_zip_eq_some]
   have hnx:(nxtG x st vals).take (k+1)=(nxtG x st vals).take k++[nxF vals (x.2.1[k],st[k]'(by omega))]:=take_snoc' (by simp only[nxtG,List.getElem?_map,hzz];rfl)
   have w2:IntKind.i64.wrap ((k:Int)+1)=(k:Int)+1:=wrap_id (by omega) (by omega)
   have hli:=litsIn_seq o2 hvl (List.getElem_mem hlt)
   have hl4:=seqOk_len (o1 _ (List.getElem_mem hlt))
   generalize x.2.1[k]=s at *
   generalize st[k]'(by omega)=v at *
   have hd:decide (k<x.2.1.length)=true:=decide_eq_true hlt
   have hd':decide (k<st.length)=true:=decide_eq_true (by omega)
   have hf:seqNextL s.1 v (packL (s.2.2.map (litL vals)))=nxF vals (s,v):=rfl
   simp[hd,hd',hx1,hx2,hL,enSeq]
   refine⟨by kernel_rfl,?_⟩
   refine call_step (l09Mask_con vals s.2.2 hvb hli (by omega) (by omega)) ?_
   simp
   refine call_step (sSeqNext_con _ _ _) ?_
   simp[hf]
   refine app_data vt_el_26 rfl (by simp) rfl (by simp) (by simp) (by first | (simp;done)|(simp;omega)) (by simp[flatP,flatD]) ?_
   simp[w2]
   exact round_of hI hS hμ (k+1) (by omega) (by omega) ⟨[0,4,2],by simp[hnx]⟩
 · have hk':k=x.2.1.length:=by omega
   subst hk'
   simp[hlt]
   refine call_step (l09Mask_con vals x.2.2.2 hvb (litsIn_outs o2 hvl) n5 (by omega)) ?_
   simp[outG]
def lkF (st:List Int) (l:LinkD):Int:=shr64 l.2 (packL (l.1.map (atI st))) % 2
def lkL (ls:List LinkD) (st:List Int):List Int:=ls.map (lkF st)
def linksIn (st:List Int) (ls:List LinkD):Prop:=∀ l∈ls,l.1.length≤4∧nodesIn st l.1
theorem packL_le {vs:List Int} (h:bitsI vs) (hl:vs.length≤4):0≤packL vs∧packL vs<16:=by
 have:=packK_lt h vs.length
 have hp:=pow_le hl
 unfold packL
 omega
set_option maxRecDepth 100000 in
theorem linkState_con (ls:List LinkD) (st:List Int) (hl:ls.length≤1048576) (hs:st.length≤1048576) (hb:bitsI st) (hi:linksIn st ls):ConC Try.prog 38 [ilk ls,ints st] (ints (lkL ls st)):=by
 have hsl:lkL ls st=(lkL ls st).take ls.length:=by rw[List.take_of_length_le (by simp[lkL])]
 rw[hsl]
 refine con_of (by kernel_rfl) Try.func38 rfl rfl rfl ?_
 simp
 refine aw_loopN [false,true,false,false,false,true,false,false,true,true,true,false,false,false,false,false,false,false,false,false,false,false,false,false,false,false,false,false] (fun k:Nat=>k≤ls.length) (fun k:Nat=>[(5,nilR k 0),(10,.d (.int .i64 k))]) (fun k:Nat=>nilS k ((lkL ls st).take k)) (fun k:Nat=>ls.length - k) 0 ?_ ?_ ?_
 · simp
 · exact⟨[],by simp[nilR,nilS]⟩
 rintro I S μ hI hS hμ k hk
 by_cases hlt:k<ls.length
 · have hx1:ls[k]? = some ls[k]:=List.getElem?_eq_getElem hlt
   have hL:(enLink ls[k]).length=2:=rfl
   have hnx:(lkL ls st).take (k+1)=(lkL ls st).take k++[lkF st ls[k]]:=take_snoc' (by simp[lkL,hx1])
   have w2:IntKind.i64.wrap ((k:Int)+1)=(k:Int)+1:=wrap_id (by omega) (by omega)
   have hli:=hi _ (List.getElem_mem hlt)
   generalize ls[k]=s at *
   have hp:=packL_le (vs:=s.1.map (atI st)) (bitsI_map fun y _=>atI_bit hb y) (by simpa using hli.1)
   have hf:shr64 s.2 (packL (s.1.map (atI st))) % 2=lkF st s:=rfl
   obtain⟨p,hpp⟩:∃ p,p=packL (s.1.map (atI st)):=⟨_,rfl⟩
   rw[←hpp] at hp hf
   have wp:IntKind.u64.wrap p=p:=u64_id hp.1 (by omega)
   have hd:decide (k<ls.length)=true:=decide_eq_true hlt
   have hc:=packNodes_con st s.1 hb hli.2 (by omega) hs
   rw[←hpp] at hc
   by_cases hk0:k=0
   · subst hk0
     have w20:IntKind.i64.wrap 1=1:=by decide
     simp[nilR,nilS,hd,hx1,hL,enLink]
     refine⟨by kernel_rfl,?_⟩
     refine call_step (hc) ?_
     simp[wp,hp.1,and64_one,hf]
     refine app_data vt_el_26 rfl (by simp) rfl (by simp) (by simp) (by first | (simp;done)|(simp;omega)) (by simp[flatP,flatD]) ?_
     simp[w20]
     exact round_of hI hS hμ 1 (by omega) (by omega) ⟨[2],by simp[nilR,nilS,hnx]⟩
   · simp[nilR,nilS,hd,hx1,hL,enLink,hk0]
     refine⟨by kernel_rfl,?_⟩
     refine call_step (hc) ?_
     simp[wp,hp.1,and64_one,hf]
     refine app_data vt_el_26 rfl (by simp) rfl (by simp) (by simp) (by first | (simp;done)|(simp;omega)) (by simp[flatP,flatD]) ?_
     simp[w2]
     exact round_of hI hS hμ (k+1) (by omega) (by omega) ⟨[3],by simp[nilR,nilS,hnx]⟩
 · have hk':k=ls.length:=by omega
   subst hk'
   by_cases hk0:ls.length=0
   · simp[nilR,nilS,hk0]
   · simp[nilR,nilS,hk0]
set_option maxRecDepth 100000 in
theorem l25State_con (ls:List LinkD) (st:List Int) (hl:ls.length≤1048576) (hs:st.length≤1048576) (hb:bitsI st) (hi:linksIn st ls):ConC Try.prog 47 [ilk ls,ints st] (ints (lkL ls st)):=by
 have hsl:lkL ls st=(lkL ls st).take ls.length:=by rw[List.take_of_length_le (by simp[lkL])]
 rw[hsl]
 refine con_of (by kernel_rfl) Try.func47 rfl rfl rfl ?_
 simp
 refine aw_loopU [true,true,false,false,false,true,true,false,false,false,false,false,false,false,false,false,false,false,false,false,false,false,false,false,false,false,false,false,false,false,false,false] (fun k:Nat=>k≤ls.length) (fun k:Nat=>[(5,.ref 0),(6,.d (.int .i64 k))]) (fun k:Nat=>[(0,.arr 3 true (((lkL ls st).take k).map (e1 eInt)))]) (fun k:Nat=>ls.length - k) 0 ?_ ?_ ?_
 · simp
 · exact⟨[0],by simp⟩
 rintro I S μ hI hS hμ k hk
 by_cases hlt:k<ls.length
 · have hx1:ls[k]? = some ls[k]:=List.getElem?_eq_getElem hlt
   have hL:(enLink ls[k]).length=2:=rfl
   have hnx:(lkL ls st).take (k+1)=(lkL ls st).take k++[lkF st ls[k]]:=take_snoc' (by simp[lkL,hx1])
   have w2:IntKind.i64.wrap ((k:Int)+1)=(k:Int)+1:=wrap_id (by omega) (by omega)
   have hli:=hi _ (List.getElem_mem hlt)
   generalize ls[k]=s at *
   have hp:=packL_le (vs:=s.1.map (atI st)) (bitsI_map fun y _=>atI_bit hb y) (by simpa using hli.1)
   have hf:shr64 s.2 (packL (s.1.map (atI st))) % 2=lkF st s:=rfl
   obtain⟨p,hpp⟩:∃ p,p=packL (s.1.map (atI st)):=⟨_,rfl⟩
   rw[←hpp] at hp hf
   have hd:decide (k<ls.length)=true:=decide_eq_true hlt
   have hc:=l20Pack_con st s.1 hb hli.2 (by omega) hs
   rw[←hpp] at hc
   simp[hd,hx1,hL,enLink]
   refine⟨by kernel_rfl,?_⟩
   refine call_step (hc) ?_
   simp[hp.1,and64_one,hf]
   refine app_data vt_el_26 rfl (by simp) rfl (by simp) (by simp) (by first | (simp;done)|(simp;omega)) (by simp[flatP,flatD]) ?_
   simp[w2]
   exact round_of hI hS hμ (k+1) (by omega) (by omega) ⟨[2],by simp[hnx]⟩
 · have hk':k=ls.length:=by omega
   subst hk'
   simp[hlt]
end Go.Proofs.Ytnjedabjbeipeaa
