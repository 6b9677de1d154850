/-
  The law of retimed nets: each call returns true, at every input.
  Conditions: none.
-/
import Derived.Test.YtnjedabjbeipeaaKd
import Derived.Test.YtnjedabjbeipeaaKg
import Derived.Test.YtnjedabjbeipeaaNz
import Derived.Test.YtnjedabjbeipeaaRc
import Derived.Test.YtnjedabjbeipeaaKfFnForwardRelated
namespace Go.Proofs.Ytnjedabjbeipeaa
open Go.RowKit Go.ChangeShapes Go.WideShapes Go.ChangeAt
set_option linter.unusedVariables false
set_option linter.unusedSimpArgs false
attribute [local simp ↓] condG_true condG_false condB_true condB_false
attribute [local simp] AWp_skip AWp_region_t AWp_region_d AWp_region_f still_mk AWp_seq AWp_cond condV_bool condB AWp_block AWp_exit AWp_ret
attribute [local simp] AOps_nil AOp_move AOp_assign AOp_pick AOp_binOp AOp_unOp AOp_convert AOp_len AOp_max AOp_min AOp_indexAddr AOp_load
attribute [local simp] AOp_fieldAddr AOp_field AOp_extract AOp_nilCheck AOp_build AOp_alloc AOp_box AOp_call AOp_store AOp_append AOp_buildSlice nextB_some
attribute [local simp] nextB_none adoptO adoptC AOp_makeSlice AOp_slice AOp_makeFunc AOp_guard guardD_some guardG_bool guardG_undef nextO_some nextS_some
attribute [local simp] nextZ_some nextL_some nextM_some nextT_some sliceO sliceL sliceT partO partV boundV funcO pickO
attribute [local simp] convO lenO maxO minO idxO extO nilO buildO litO litC makeO chunks
attribute [local simp] fillV placeOf thenA inBlockA St.get St.put St.eval ofCell evalT abin_add abin_sub abin_mul
attribute [local simp] abin_quo abin_rem abin_and abin_or abin_xor abin_andNot abin_shl abin_shr abin_shlu abin_eql abin_eqp abin_neq
attribute [local simp] abin_lss abin_leq abin_gtr abin_geq abin_eqlb abin_neqb aun pickV lenV intOf? indexV takeD
attribute [local simp] takeV loadV fieldAddrV fieldV ofX presD presDs pres presAll cellsV V.cell storeV
attribute [local simp] freezeC putAt kill takeC plains plainV scalarV nat_neg keepT sets eSl e1
attribute [local simp] e2 e3 e4 eInt eBool abinS_d abinS_agg abinS nilEq abin_eqb AOp_makeMap AOp_lookup
attribute [local simp] AOp_mapUpdate lookG_some updG_some mapV kyOf vlOf lookV vlV buildA afterCall inst inst1
attribute [local simp] inst1s instD instDs RetA resVs resV gives give1 give1s Le isPin leSlots
attribute [local simp] leS leTmps leV le0 le0s ren ren0 renS ren0s frame enterT afterT_some
attribute [local simp] afterC_some lives Slot.live arrsOk viewV view0 renT rens renSs setAll List.range'_succ RetT
attribute [local simp] RetW joinV leT AOpsE_nil AOpsE_cons AOpsT_nil AOpsT_cons isCallT isFnO callOf callVC_fn condC_true
attribute [local simp] condC_false beginT_mk beginX_mk AOpsX_zero thenT_mk pickE pickT isT loose namesOf namesV names1
attribute [local simp] names0 stableN sameAt Op.operands Call.operands
abbrev ibytes (bs:List Int):X:=.d (eSl 5 (e1 eByte) bs)
theorem big_con (bs:List Int) (h:bs.length≤9223372036854775807):ConC Try.prog 6 [ibytes bs] (.d (.bool (decide (1048576<bs.length)))):=by
 refine con_of (by kernel_rfl) Try.func6 rfl rfl rfl ?_
 simp
 omega
theorem opd_byte:OpD Try.prog eByte 5:=fun h _=>by
 obtain⟨n,rfl,_,hw⟩:=DataW.trod_int Try.underlying5 h
 exact⟨n,_,rfl,.int _ _,.int _ _ hw⟩
theorem bytes_len {w:World} {G:Nat→Prop} {bs:List Int} {v:Value} (h:Rd w G (eSl 5 (e1 eByte) bs) v):bs.length≤9223372036854775807:=by
 obtain⟨_,_,_,h⟩:=Rd.len h
 simpa using h
theorem op_bytes:OpD Try.prog (eSl 5 (e1 eByte)) 22:=opd_sl Try.underlying22 (by simp) (fun x=>by simp[e1]) (ope_1 opd_byte)
theorem fwdLk_fit {x:GrD} {k:Int}:fitLk 1048576 (fwdLk x k):=by
 unfold fwdLk
 split
 · refine⟨by have:=keptG_len (x:=fwdG x k);simp;omega,fun s hs=>?_⟩
   obtain⟨i,_,rfl⟩:=List.mem_map.1 hs
   unfold lkOf
   split<;>simp
 · exact⟨by simp,by simp⟩
theorem lkP_fit {x:GrD}:fitLk 1048576 (lkP (keptG x)):=by
 refine⟨by have:=keptG_len (x:=x);simp[lkP];omega,fun s hs=>?_⟩
 obtain⟨i,_,rfl⟩:=List.mem_map.1 hs
 simp
def flop (s:SeqD):SeqD:=(0,s.2.1 % 2,s.2.2.take 1)
def flG (x:GrD):GrD:=(x.1,x.2.1.map flop,x.2.2.1,x.2.2.2)
theorem seq_len1 {s:SeqD} (h:seqOkB s=true):1≤s.2.2.length:=by
 unfold seqOkB at h
 split at h
 · simp at h;omega
 · split at h
   · simp at h;omega
   · cases h
theorem flop_ok {s:SeqD} (h:seqOkB s=true):seqOkB (flop s)=true:=by
 have hl:=seq_len1 h
 unfold seqOkB flop
 rw[if_pos rfl,rng_iff.2 (by show 0≤s.2.1 % 2∧s.2.1 % 2≤1;omega)]
 simp
 omega
theorem flG_ok {x:GrD} (hok:netOkB x=true):netOkB (flG x)=true:=by
 obtain⟨⟨n1,n2,n3,n4,n5,n6⟩,o1,o2,o3⟩:=netOk_of hok
 have hq:(flG x).2.1.length=x.2.1.length:=List.length_map _
 have hN:grN (flG x)=grN x:=by
  show 1+x.1.toNat+(flG x).2.1.length+x.2.2.1.length=1+x.1.toNat+x.2.1.length+x.2.2.1.length
  omega
 have hF:((firstG (flG x):Nat):Int)=1+x.1+x.2.1.length:=by
  show ((1+x.1.toNat+(flG x).2.1.length:Nat):Int)=_
  omega
 refine netOk_mk ⟨n1,n2⟩ (by rw[hq];exact n3) n4 n5 (fun s hs=>?_) (fun y hy=>by rw[hN];exact o2 y (outs_root hy)) (fun s hs y hy=>?_) (andsFit_of fun k a ha=>?_)
 · obtain⟨r,hr,rfl⟩:=List.mem_map.1 hs
   exact flop_ok (o1 r hr)
 · obtain⟨r,hr,rfl⟩:=List.mem_map.1 hs
   rw[hN]
   exact o2 y (List.mem_append_right _ (List.mem_flatten.2 ⟨r.2.2,List.mem_map.2 ⟨r,hr,rfl⟩,List.mem_of_mem_take hy⟩))
 · have:=o3 k a ha
   omega
theorem flG_flops {x:GrD}:flopsB (flG x)=true:=by
 unfold flopsB
 rw[List.all_eq_true]
 intro s hs
 obtain⟨r,hr,rfl⟩:=List.mem_map.1 hs
 simp[flop]
def mxF (sq:List SeqD) (i:Nat):List SeqD:=(sq.take i).map flop++sq.drop i
theorem mxF_len {sq:List SeqD} {i:Nat}:(mxF sq i).length=sq.length:=by unfold mxF;simp;omega
theorem mxF_zero {sq:List SeqD}:mxF sq 0=sq:=by simp[mxF]
theorem mxF_all {sq:List SeqD}:mxF sq sq.length=sq.map flop:=by simp[mxF]
theorem mxF_at {sq:List SeqD} {s:SeqD} {i:Nat} (h:sq[i]? = some s):(mxF sq i)[i]? = some s:=by
 have hi:=(List.getElem?_eq_some_iff.1 h).1
 unfold mxF
 rw[List.getElem?_append_right (by simp;omega)]
 simp only[List.length_map,List.length_take]
 rw[List.getElem?_drop,show i+(i - min i sq.length)=i by omega,h]
theorem mxF_set {sq:List SeqD} {s:SeqD} {i:Nat} (h:sq[i]? = some s):(mxF sq i).set i (flop s)=mxF sq (i+1):=by
 obtain⟨hi,e⟩:=List.getElem?_eq_some_iff.1 h
 unfold mxF
 rw[List.set_append_right _ _ (by simp;omega),take_snoc' h,List.map_append,List.append_assoc]
 congr 1
 rw[List.length_map,List.length_take,show i - min i sq.length=0 by omega,List.drop_eq_getElem_cons hi,e]
 rfl
set_option maxRecDepth 100000 in
set_option maxHeartbeats 10000000 in
theorem law_frel (bs:List Int) (hb:bs.length≤9223372036854775807):ConC Try.prog 3 [ibytes bs] (.d (.bool true)):=by
 have k0:=big_con bs hb
 refine con_ofD (by kernel_rfl) Try.func3 rfl rfl rfl ?_
 simp
 by_cases hbig:1048576<bs.length
 · rw[decide_eq_true hbig] at k0
   refine call_step (k0) ?_
   simp
 rw[decide_eq_false hbig] at k0
 refine call_step (k0) ?_
 simp
 have kM:=DrawFlops_conT bs (by omega)
 have hok0:=frG_ok (cur0 bs)
 obtain⟨g1,g2⟩:=frG_nums (cur0 bs)
 generalize frG (cur0 bs)=x at *
 have hok:=flG_ok hok0
 have hfl:=flG_flops (x:=x)
 have hql:(flG x).2.1.length=x.2.1.length:=List.length_map _
 have h10:(flG x).1+(flG x).2.1.length≤10:=by rw[hql];show x.1+_≤10;omega
 have hy:=fitGr_netOk hok
 obtain⟨⟨n1,n2,n3,n4,n5,n6⟩,-,-,-⟩:=netOk_of hok
 have kR:=fun k=>iRetime_conT (flG x) k hy
 have kF:=fun k=>iForwardLinks_con (flG x) k hy
 have kP:=iPruneN_conT (flG x) hy hok
 have kL:ConT Try.prog 12 [vgr (flG x)] [] (.d (eSl 44 enLink (lkP (keptG (flG x))))) []:=conT_of_C (iPruneLinks_con (flG x) hy) (by simp[notTup])
 have kB0:=iRel_con (flG x) (pruneG (flG x)) (lkP (keptG (flG x))) hy (fitGr_netOk (pruneG_ok hok)) lkP_fit
 rw[prune_rel hok hfl h10] at kB0
 have kB:ConT Try.prog 10 [vgr (flG x),vgr (pruneG (flG x)),.d (eSl 44 enLink (lkP (keptG (flG x))))] [] (.d (.bool true)) []:=conT_of_C kB0 (by simp[notTup])
 clear kB0
 have kD:=fun k h=>iRel_con (flG x) (pruneG (fwdG (flG x) k)) (fwdLk (flG x) k) hy (fitGr_netOk (pruneG_ok (fwdG_ok h))) fwdLk_fit
 have hD:=fun k h=>fwd_rel (x:=flG x) (k:=k) h hfl h10
 have hsq:∀ (i:Nat) (s:SeqD),x.2.1[i]? = some s→1≤s.2.2.length:=fun i s h=>seq_len1 ((netOk_of hok0).2.1 s (List.mem_of_getElem? h))
 have e1':(flG x).1=x.1:=rfl
 have e2':(flG x).2.1=x.2.1.map flop:=rfl
 have e4':(flG x).2.2.1=x.2.2.1:=rfl
 have e5':(flG x).2.2.2=x.2.2.2:=rfl
 generalize pruneG (flG x)=z at *
 generalize lkP (keptG (flG x))=lz at *
 generalize flG x=y at *
 by_cases hs0:x.2.1.length=0
 · have hsn:x.2.1=[]:=List.eq_nil_of_length_eq_zero hs0
   simp only[fsV,sqS,hs0,if_true] at kM
   refine callT_step (kM) [] [] (by simp) ?_
   simp
   refine aw_loopN [false,false,false,true,true,false,false,false,false,false,false,false,false,false,false,false,false,false,false,false,false,false,false,false,false,false,false,false,false,false,false,false,false,false,false,false,false,false,false,false,false,false,false,false,false,false,false,false,false,false,false,false,false,false,false,false,false,false,false,false,false,false,false,false,false,false,false,false,false,false,false,false,false,false,false,false,false,false] (fun i:Nat=>i≤0) (fun i:Nat=>[(4,.d (.int .i64 i))]) (fun i:Nat=>fun _=>[.var 28 [.d (.int .i64 x.1),.nil 31,.d (eSl 60 enAnd x.2.2.1),.d (eSl 3 (e1 eInt) x.2.2.2)]]) (fun i:Nat=>0) 0 ?_ ?_ ?_
   · exact Nat.zero_le _
   · exact⟨[0],by simp⟩
   rintro I S μ hI hS hμ i hi
   obtain rfl:i=0:=by omega
   simp
   refine aw_loopN [false,false,false,true,false,true,false,false,false,false,false,false,false,false,false,false,false,false,false,false,false,false,false,false,false,false,false,false,false,false,false,false,false,false,false,false,false,false,false,false,false,false,false,false,false,false,false,false,false,false,false,false,false,false,false,false,false,false,false,false,false,false,false,false,false,false,false,false,false,false,false,false,false,false,false,false,false,false] (fun k:Nat=>k≤x.2.2.1.length) (fun k:Nat=>[(3,.ptr 0 0),(5,.d (.int .i64 k))]) (fun k:Nat=>fun _=>[.var 28 [.d (.int .i64 y.1),.d (eSl 31 enSeq y.2.1),.d (eSl 60 enAnd y.2.2.1),.d (eSl 3 (e1 eInt) y.2.2.2)]]) (fun k:Nat=>x.2.2.1.length - k) 0 ?_ ?_ ?_
   · exact Nat.zero_le _
   · exact⟨[0],by simp[e1',e2',e4',e5',hsn]⟩
   rintro I S μ hI hS hμ k hk
   have hal:y.2.2.1.length=x.2.2.1.length:=by rw[e4']
   by_cases hlt:k<x.2.2.1.length
   · have w1:IntKind.i64.wrap ((k:Int)+1)=((k+1:Nat):Int):=by rw[wrap_id (by omega) (by omega)];omega
     have kR:=kR k
     have kF:=kF k
     have kD:=kD k
     cases hb:fwdOkB y k with
     | false =>
       rw[hb] at kR kF
       simp only[Bool.false_eq_true,if_false] at kR
       simp[decide_eq_true hlt,hal]
       refine callT_step (kR) [] [] (by simp) ?_
       simp
       refine call_step (kF) ?_
       simp
       simp[w1]
       exact round_of hI hS hμ (k+1) (by omega) (by omega) ⟨[0],by simp⟩
     | true =>
       have kD:=kD hb
       rw[hD k hb] at kD
       rw[hb] at kR kF
       simp only[if_true] at kR
       simp[decide_eq_true hlt,hal]
       refine callT_step (kR) [] [] (by simp) ?_
       simp
       refine call_step (kF) ?_
       simp
       refine call_step (kD) ?_
       simp[w1]
       exact round_of hI hS hμ (k+1) (by omega) (by omega) ⟨[0],by simp⟩
   obtain rfl:k=x.2.2.1.length:=by omega
   simp[hal,hlt,decide_eq_false hlt]
   refine drawE_of [(2,[0,3]),(4,[0]),(5,[]),(6,[])] (by kernel_rfl) ?_
   simp
   refine callC_step (kP) [] [] (by simp) (by simp[nearTo]) ?_
   simp
   refine callC_step (kL) [] [] (by simp) (by simp[nearTo]) ?_
   simp
   refine callC_step (kB) [] [] (by simp) (by simp[nearTo]) ?_
   simp
 · simp only[fsV,sqS,if_neg hs0] at kM
   refine callT_step (kM) [] [] (by simp) ?_
   simp
   refine aw_loopN [false,false,false,true,true,false,false,false,false,false,false,false,false,false,false,false,false,false,false,false,false,false,false,false,false,false,false,false,false,false,false,false,false,false,false,false,false,false,false,false,false,false,false,false,false,false,false,false,false,false,false,false,false,false,false,false,false,false,false,false,false,false,false,false,false,false,false,false,false,false,false,false,false,false,false,false,false,false] (fun i:Nat=>i≤x.2.1.length) (fun i:Nat=>[(4,.d (.int .i64 i))]) (fun i:Nat=>fun _=>[.arr 31 false ((mxF x.2.1 i).map enSeq),.var 28 [.d (.int .i64 x.1),.ref 0,.d (eSl 60 enAnd x.2.2.1),.d (eSl 3 (e1 eInt) x.2.2.2)]]) (fun i:Nat=>x.2.1.length - i) 0 ?_ ?_ ?_
   · exact Nat.zero_le _
   · exact⟨[0,1],by simp[mxF_zero]⟩
   rintro I S μ hI hS hμ i hi
   by_cases hlt:i<x.2.1.length
   · obtain⟨s,hs⟩:∃ s,x.2.1[i]? = some s:=⟨_,List.getElem?_eq_getElem hlt⟩
     have hat:((mxF x.2.1 i).map enSeq)[i]? = some (enSeq s):=by rw[List.getElem?_map,mxF_at hs];rfl
     have hset:((mxF x.2.1 i).map enSeq).set i (enSeq (flop s))=(mxF x.2.1 (i+1)).map enSeq:=by rw[←mxF_set hs,List.map_set]
     have hln:((mxF x.2.1 i).map enSeq).length=x.2.1.length:=by rw[List.length_map,mxF_len]
     have h1s:=hsq i s hs
     have h1t:(1≤s.2.2.length)=True:=eq_true h1s
     have hi12:i≤12:=by omega
     have w1:IntKind.i64.wrap ((i:Int)+1)=((i+1:Nat):Int):=by rw[wrap_id (by omega) (by omega)];omega
     have hfl2:enSeq (flop s)=[.int .i64 0,.int .i64 (s.2.1 % 2),.sl 3 ((s.2.2.map (e1 eInt)).take 1)]:=by simp[enSeq,flop,e3,eInt,eSl,List.map_take]
     rw[hfl2] at hset
     generalize (mxF x.2.1 i).map enSeq=mx at *
     simp[decide_eq_true hlt,hln]
     refine drawD_of 19 (by kernel_rfl) ?_
     simp[hat,hln,enSeq,and64_one,hset,w1,h1t]
     exact round_of hI hS hμ (i+1) (by omega) (by omega) ⟨[0,1],by simp⟩
   obtain rfl:i=x.2.1.length:=by omega
   rw[mxF_all]
   simp[decide_eq_false hlt,hlt]
   refine aw_loopN [false,false,false,true,false,true,false,false,false,false,false,false,false,false,false,false,false,false,false,false,false,false,false,false,false,false,false,false,false,false,false,false,false,false,false,false,false,false,false,false,false,false,false,false,false,false,false,false,false,false,false,false,false,false,false,false,false,false,false,false,false,false,false,false,false,false,false,false,false,false,false,false,false,false,false,false,false,false] (fun k:Nat=>k≤x.2.2.1.length) (fun k:Nat=>[(3,.ptr 0 0),(5,.d (.int .i64 k))]) (fun k:Nat=>fun _=>[.var 28 [.d (.int .i64 y.1),.d (eSl 31 enSeq y.2.1),.d (eSl 60 enAnd y.2.2.1),.d (eSl 3 (e1 eInt) y.2.2.2)]]) (fun k:Nat=>x.2.2.1.length - k) 0 ?_ ?_ ?_
   · exact Nat.zero_le _
   · exact⟨[1],by simp[e1',e2',e4',e5']⟩
   rintro I S μ hI hS hμ k hk
   have hal:y.2.2.1.length=x.2.2.1.length:=by rw[e4']
   by_cases hlt:k<x.2.2.1.length
   · have w1:IntKind.i64.wrap ((k:Int)+1)=((k+1:Nat):Int):=by rw[wrap_id (by omega) (by omega)];omega
     have kR:=kR k
     have kF:=kF k
     have kD:=kD k
     cases hb:fwdOkB y k with
     | false =>
       rw[hb] at kR kF
       simp only[Bool.false_eq_true,if_false] at kR
       simp[decide_eq_true hlt,hal]
       refine callT_step (kR) [] [] (by simp) ?_
       simp
       refine call_step (kF) ?_
       simp
       simp[w1]
       exact round_of hI hS hμ (k+1) (by omega) (by omega) ⟨[0],by simp⟩
     | true =>
       have kD:=kD hb
       rw[hD k hb] at kD
       rw[hb] at kR kF
       simp only[if_true] at kR
       simp[decide_eq_true hlt,hal]
       refine callT_step (kR) [] [] (by simp) ?_
       simp
       refine call_step (kF) ?_
       simp
       refine call_step (kD) ?_
       simp[w1]
       exact round_of hI hS hμ (k+1) (by omega) (by omega) ⟨[0],by simp⟩
   obtain rfl:k=x.2.2.1.length:=by omega
   simp[hal,hlt,decide_eq_false hlt]
   refine drawE_of [(2,[0,3]),(4,[0]),(5,[]),(6,[])] (by kernel_rfl) ?_
   simp
   refine callC_step (kP) [] [] (by simp) (by simp[nearTo]) ?_
   simp
   refine callC_step (kL) [] [] (by simp) (by simp[nearTo]) ?_
   simp
   refine callC_step (kB) [] [] (by simp) (by simp[nearTo]) ?_
   simp
set_option maxRecDepth 100000 in
theorem FnForwardRelated_lifted (os:Os) (started:os.Started) (H:Type) (enc:TypeId×Value→H) :
 ReturnsInHanded {} Try.checked os 3 .any (Rows.fnForwardRelatedSpec.pre6 enc Try.prog Try.f3 Rows.fnForwardRelatedRow.domain false) (Rows.fnForwardRelatedSpec.post enc Try.prog Try.f3 false true false false):=by
 refine law_lift (C:=Try.checked) Try.own started (by kernel_rfl) Try.func3
  (ChangeSpec.witness6 (enc:=enc) (C:=Try.checked) false ⟨#[],#[.slice none 0 0],[]⟩ 8 (by kernel_rfl) (by kernel_rfl) (by kernel_rfl) (by kernel_rfl))
  Try.laidOut (of_decide_eq_true (by kernel_rfl)) rfl rfl Try.underlying4 ?_
 intro W base args ds ps hval0 hA0 hlt
 have hval:∀ (j:Nat) t v,Try.f3.params[j]? = some t→args[j]? = some v→Value.okWide Try.prog W .any base t v:=hval0
 have hA:DataW.TrodAll enc Try.prog W 0 (fun _=>true) true Try.f3.params.toList args.toList ds ps:=hA0
 clear hval0 hA0
 rw[Try.params3] at hA hval
 obtain⟨v0,vs0,d0,ds0,p0,q0,hargs,rfl,rfl,h0,r0⟩:=trodAll_cons hA
 obtain⟨rfl,rfl,rfl⟩:=trodAll_nil r0
 obtain rfl:args=#[v0]:=by cases args;simp_all
 obtain⟨bs,hb⟩:=openD_sl Try.underlying22 op_bytes (hval 0 _ v0 rfl rfl) h0 (fun x hx=>hlt x (by simp[hx]))
 exact⟨rfl,law_con (law_frel bs (bytes_len hb)) rfl (args1 (.d hb))⟩
theorem FnForwardRelated_holds:Rows.FnForwardRelatedSaid :=
 OpenClaim.holds_of_wide 3 Try.f3 rfl rfl rfl rfl rfl rfl rfl ⟨rfl,rfl,rfl,rfl,rfl⟩ rfl rfl rfl rfl rfl (by kernel_rfl) Try.func3 FnForwardRelated_closed
  (of_decide_eq_true (by kernel_rfl)) (by unfold Func.isWrapper;first | (rw[if_pos (by decide +kernel)];kernel_rfl)|(rw[if_neg (by decide +kernel)];exact⟨rfl,rfl⟩))
  (fun os started H enc _=>FnForwardRelated_lifted os started H enc)
#print axioms FnForwardRelated_holds
end Go.Proofs.Ytnjedabjbeipeaa
