/-
  Sweeping and hashing of nets by the reference, by abstract walks.
  Conditions: those typed in each theorem.
-/
import Derived.Test.YtakohcpfjkcfdaaPc
import Derived.Test.YtakohcpfjkcfdaaUf
import Derived.Test.YtakohcpfjkcfdaaNr
namespace Go.Proofs.Ytakohcpfjkcfdaa
open Go.RowKit Go.ChangeShapes Go.WideShapes
set_option linter.unusedVariables false
set_option linter.unusedSimpArgs false
attribute [local simp ↓] condG_true condG_false condB_true condB_false
attribute [local simp] AWp_skip AWp_region_t AWp_region_d AWp_region_f still_mk AWp_seq AWp_cond condV_bool condB AWp_block AWp_exit AWp_ret
attribute [local simp] AOps_nil AOp_move AOp_assign AOp_pick AOp_binOp AOp_unOp AOp_convert AOp_len AOp_max AOp_min AOp_indexAddr AOp_load
attribute [local simp] AOp_fieldAddr AOp_field AOp_extract AOp_nilCheck AOp_build AOp_alloc AOp_box AOp_call AOp_store AOp_append AOp_buildSlice nextB_some
attribute [local simp] nextB_none adoptO adoptC AOp_makeSlice AOp_slice AOp_makeFunc AOp_guard guardD_some guardG_bool guardG_undef nextO_some nextS_some
attribute [local simp] nextZ_some nextL_some nextM_some nextT_some sliceO sliceL sliceT partO partV boundV funcO pickO
attribute [local simp] convO lenO maxO minO idxO extO nilO buildO litO litC makeO chunks
attribute [local simp] fillV placeOf thenA inBlockA St.get St.put St.eval ofCell evalT abin_add abin_sub abin_mul
attribute [local simp] abin_quo abin_rem abin_and abin_or abin_xor abin_andNot abin_shl abin_shr abin_shlu abin_eql abin_eqp abin_neq
attribute [local simp] abin_lss abin_leq abin_gtr abin_geq abin_eqlb abin_neqb aun pickV lenV intOf? indexV takeD
attribute [local simp] takeV loadV fieldAddrV fieldV ofX presD presDs pres presAll cellsV V.cell storeV
attribute [local simp] freezeC putAt kill takeC plains plainV scalarV nat_neg keepT sets eSl e1
attribute [local simp] e2 e3 e4 eInt eBool abinS_d abinS_agg abinS nilEq abin_eqb AOp_makeMap AOp_lookup
attribute [local simp] AOp_mapUpdate lookG_some updG_some mapV kyOf vlOf lookV vlV buildA afterCall inst inst1
attribute [local simp] inst1s instD instDs RetA resVs resV gives give1 give1s Le isPin leSlots
attribute [local simp] leS leTmps leV le0 le0s ren ren0 renS ren0s frame enterT afterT_some
attribute [local simp] afterC_some lives Slot.live arrsOk viewV view0 renT rens renSs setAll List.range'_succ RetT
attribute [local simp] RetW joinV leT AOpsE_nil AOpsE_cons AOpsT_nil AOpsT_cons isCallT isFnO callOf callVC_fn condC_true
attribute [local simp] condC_false beginT_mk thenT_mk pickE pickT isT loose namesOf namesV names1 names0 stableN
attribute [local simp] sameAt Op.operands Call.operands
def mixS (to:List Int) (sq:List SeqD) (i:Nat):List SeqD:=(sq.take i).map (mapSeq to)++(sq.drop i).map zeroSeq
theorem mixS_len {to:List Int} {sq:List SeqD} {i:Nat}:(mixS to sq i).length=sq.length:=by unfold mixS;simp;omega
theorem mixS_zero {to:List Int} {sq:List SeqD}:mixS to sq 0=sq.map zeroSeq:=by simp[mixS]
theorem mixS_all {to:List Int} {sq:List SeqD}:mixS to sq sq.length=sq.map (mapSeq to):=by simp[mixS]
theorem mixS_at {to:List Int} {sq:List SeqD} {s:SeqD} {i:Nat} (h:sq[i]? = some s):(mixS to sq i)[i]? = some (zeroSeq s):=by
 have hi:=(List.getElem?_eq_some_iff.1 h).1
 unfold mixS
 rw[List.getElem?_append_right (by simp;omega)]
 simp only[List.length_map,List.length_take]
 rw[show i - min i sq.length=0 by omega,List.getElem?_map,List.getElem?_drop,Nat.add_zero,h]
 rfl
theorem mixS_set {to:List Int} {sq:List SeqD} {s:SeqD} {i:Nat} (h:sq[i]? = some s):(mixS to sq i).set i (mapSeq to s)=mixS to sq (i+1):=by
 obtain⟨hi,e⟩:=List.getElem?_eq_some_iff.1 h
 unfold mixS
 rw[List.set_append_right _ _ (by simp;omega),take_snoc' h,List.map_append,List.append_assoc]
 congr 1
 rw[List.length_map,List.length_take,show i - min i sq.length=0 by omega,List.drop_eq_getElem_cons hi,e]
 rfl
theorem rt_out {x:GrD} {y:Int} (h:y∈x.2.2.2):y∈grRoots x:=List.mem_append_left _ h
theorem rt_seq {x:GrD} {s:SeqD} {y:Int} (hs:s∈x.2.1) (h:y∈s.2.2):y∈grRoots x:=List.mem_append_right _ (List.mem_flatten.2 ⟨s.2.2,List.mem_map.2 ⟨s,hs,rfl⟩,h⟩)
set_option maxRecDepth 100000 in
theorem sReached_con (x:GrD) (hx:fitGr 1048576 x) (hg:okGr x) (hok:netOkB x=true):ConC Try.prog 87 [igr x] (bools (reachM x)):=by
 have kO:=sNetOk_con x hx hg
 rw[hok] at kO
 obtain⟨⟨n1,n2,n3,n4,n5,n6⟩,-,-,-⟩:=netOk_of hok
 obtain⟨hF,hgl,hNi,hno⟩:=ok_sizes hok
 have kN:=sNodeCount_con x
 rw[hno] at kN
 have hrl:=rootsN_len hok
 have hri:=rootsN_in hok
 have kR:=sRoots_con x hx n3
 have hlr:∀ k,(rtM (List.replicate (grN x) false) (grRoots x) k).length=grN x:=fun k=>by rw[rtM_len];simp
 have hM:reachM x=sweepG x (rtM (List.replicate (grN x) false) (grRoots x) (grRoots x).length):=rfl
 have kS:=sMark_con x (rtM (List.replicate (grN x) false) (grRoots x) (grRoots x).length) hx hok (hlr _)
 rw[←hM] at kS
 generalize reachM x=RM at *
 generalize grRoots x=rs at *
 have hr0:(rtM (List.replicate (grN x) false) rs 0).map (e1 eBool)=List.replicate (grN x) [D.bool false]:=by rw[rep_bools];rfl
 generalize List.replicate (grN x) false=s0 at *
 refine con_ofD (by kernel_rfl) Try.func87 rfl rfl rfl ?_
 simp[enGr]
 refine call_step (kO) ?_
 simp
 refine call_step (kN) ?_
 simp[show (grN x:Int)≤1099511627776 by omega]
 refine call_step (kR) ?_
 simp
 refine aw_loopU [false,true,false,true,true,true,false,false,false,false,false,false,false,false,false,false,false,false,false,false,false,false,false,false,false,false,false,false,false,false,false] (fun k:Nat=>k≤rs.length) (fun k:Nat=>[(5,.d (.int .i64 k))]) (fun k:Nat=>[(1,.arr 4 true ((rtM s0 rs k).map (e1 eBool)))]) (fun k:Nat=>rs.length - k) 0 ?_ ?_ ?_
 · simp
 · exact⟨[0,1,2],by simp[hr0]⟩
 rintro I S μ hI hS hμ k hk
 have hlk:=hlr k
 by_cases hlt:k<rs.length
 · have hx1:rs[k]? = some rs[k]:=List.getElem?_eq_getElem hlt
   have w2:IntKind.i64.wrap ((k:Int)+1)=(k:Int)+1:=wrap_id (by omega) (by omega)
   have hd:decide (k<rs.length)=true:=decide_eq_true hlt
   have hyr:=hri _ (List.getElem_mem hlt)
   have hnx:rtM s0 rs (k+1)=(rtM s0 rs k).set (rs[k] / 2).toNat true:=by simp[rtM,atI_get hx1]
   generalize rs[k]=y at *
   generalize rtM s0 rs k=s at *
   obtain⟨q,hq⟩:∃ q:Nat,(q:Int)=y / 2:=⟨(y / 2).toNat,by omega⟩
   rw[←hq,Int.toNat_natCast] at hnx
   have q1:IntKind.i64.wrap (y.tdiv 2)=(q:Int):=by rw[Int.tdiv_eq_ediv_of_nonneg hyr.1,←hq];exact wrap_id (by omega) (by omega)
   have hat:=getB_at (s:=s) (v:=q) (by omega)
   have hset:=map_setB (s:=s) (v:=q) (b:=true)
   generalize s.set q true=sq at *
   simp[hd,hx1,q1,hat,hset,w2]
   exact round_of hI hS hμ (k+1) (by omega) (by omega) ⟨[0,1,2],by simp[hnx]⟩
 obtain rfl:k=rs.length:=by omega
 simp[hlt,decide_eq_false hlt]
 refine call_step (kS) ?_
 simp
set_option maxRecDepth 100000 in
set_option maxHeartbeats 10000000 in
theorem sSweep_con (y:GrD) (hx:fitGr 1048576 y) (hg:okGr y) (hok:netOkB y=true):ConC Try.prog 77 [igr y] (igr (sweptG y)):=by
 have kO:=sNetOk_con y hx hg
 rw[hok] at kO
 obtain⟨⟨n1,n2,n3,n4,n5,n6⟩,-,-,-⟩:=netOk_of hok
 obtain⟨hF,hgl,hNi,hno⟩:=ok_sizes hok
 have hN:=grN_eq y
 have kR:=sReached_con y hx hg hok
 have kE:=l10Empty_con y hx ⟨n1,n2⟩ n3
 have kF:=sFirst_con y ⟨n1,n2⟩ n3
 rw[←hF] at kF
 have hri:=rootsN_in hok
 have hkl:(reachM y).length=grN y:=by unfold reachM;rw[sweepG_len,rtM_len];simp
 have hsw:=fun i hi=>swR_ok (keep:=reachM y) hok i hi
 have hS:sweptG y=(y.1,y.2.1.map (mapSeq (swR y (reachM y) y.2.2.1.length).2),(swR y (reachM y) y.2.2.1.length).1,y.2.2.2.map (plMapV (swR y (reachM y) y.2.2.1.length).2)):=rfl
 rw[hS]
 have hs0:swR y (reachM y) 0=([],leafL (firstG y)):=rfl
 have hsx:=fun i=>(show swR y (reachM y) (i+1)=if getB (reachM y) (firstG y+i)=true then ((swR y (reachM y) i).1++[(plMapV (swR y (reachM y) i).2 (andAt y (firstG y+i)).1,plMapV (swR y (reachM y) i).2 (andAt y (firstG y+i)).2)],(swR y (reachM y) i).2++[2*((firstG y:Int)+(swR y (reachM y) i).1.length)]) else ((swR y (reachM y) i).1,(swR y (reachM y) i).2++[0]) from rfl)
 generalize reachM y=keep at *
 refine con_ofD (by kernel_rfl) Try.func77 rfl rfl rfl ?_
 simp[enGr]
 refine call_step (kO) ?_
 simp
 refine call_step (kR) ?_
 simp
 refine call_step (kE) ?_
 simp[enGr]
 refine call_step (kF) ?_
 simp
 refine aw_loopN [false,true,true,true,true,true,true,true,false,false,false,false,false,false,false,false,false,false,false,false,false,false,false,false,false,false,false,false,false,false,false,false,false,false,false,false,false,false,false,false,false,false,false,false,false,false,false,false,false,false,false,false,false,false,false,false,false,false,false,false,false,false,false,false,false,false,false,false,false,false,false,false,false,false,false,false,false,false,false,false,false,false,false,false,false,false,false,false,false,false,false,false,false,false,false,false,false,false,false,false,false] (fun i:Nat=>i≤y.2.2.1.length) (fun i:Nat=>[(4,.ptr 7 0),(5,.ref 6),(6,.d (.int .i64 ((firstG y:Int)+(swR y keep i).1.length))),(7,.d (.int .i64 i))]) (fun i:Nat=>fun sl=>[dgrV y,zG,.arr 4 true (keep.map (e1 eBool)),.arr 68 true ((y.2.1.map zeroSeq).map enSeq),.arr 56 true ((swR y keep i).1.map enAnd),.arr 3 true [],.arr 3 true ((swR y keep i).2.map (e1 eInt)),.var 28 [.d (.int .i64 y.1),.ref 3,.ref 4,.ref 5]]) (fun i:Nat=>y.2.2.1.length - i) 0 ?_ ?_ ?_
 · simp
 · exact⟨[0,1,2,3,4,5,6,7],by simp[zG,dgrV,hs0]⟩
 rintro I S μ hI hS hμ i hi
 obtain⟨g1,g2,g3,g4⟩:=hsw i hi
 by_cases hlt:i<y.2.2.1.length
 · skip
   --[dev
   obtain⟨hA,a1,a2,a3,a4,a5,a6⟩:=and_at hok (v:=firstG y+i) (by omega) (by omega)
   rw[Nat.add_sub_cancel_left] at hA
   have hd:=decide_eq_true hlt
   have hat:=getB_at (s:=keep) (v:=firstG y+i) (by omega)
   have w1:IntKind.i64.wrap ((i:Int)+1)=(i:Int)+1:=wrap_id (by omega) (by omega)
   have w3:IntKind.i64.wrap ((firstG y:Int)+i)=((firstG y+i:Nat):Int):=by rw[wrap_id (by omega) (by omega)];omega
   have hx2:=hsx i
   have kM:=l10Map_con (swR y keep i).2 [(andAt y (firstG y+i)).1,(andAt y (firstG y+i)).2] (by omega) (by simp) (fun l hl'=>by
    simp only[List.mem_cons,List.not_mem_nil,or_false] at hl'
    rcases hl' with rfl|rfl<;>omega)
   simp only[List.map_cons,List.map_nil] at kM
   generalize swR y keep i=s at *
   obtain⟨an,to⟩:=s
   simp only at g1 g2 g3 g4 hx2 kM
   generalize andAt y (firstG y+i)=A at *
   have hL:(enAnd A).length=2:=rfl
   generalize plMapV to A.1=x1 at *
   generalize plMapV to A.2=x2 at *
   have w4:IntKind.i64.wrap (2*((firstG y:Int)+an.length))=2*((firstG y:Int)+an.length):=wrap_id (by omega) (by omega)
   have w5:IntKind.i64.wrap ((firstG y:Int)+an.length+1)=(firstG y:Int)+an.length+1:=wrap_id (by omega) (by omega)
   generalize hv:firstG y+i=v at *
   cases hb:getB keep v with
   | false =>
     rw[hb] at hat
     rw[hb,if_neg (by simp)] at hx2
     simp[hd]
     refine call_step (kF) ?_
     simp[w3,hat]
     refine app_data vt_el_26 rfl (by simp) rfl (by simp) (by simp) (by first | (simp;done)|(simp;omega)) (by simp[flatP,flatD]) ?_
     simp[w1]
     exact round_of hI hS hμ (i+1) (by omega) (by omega) ⟨[0,1,2,3,4,5,9,7],by simp[hx2,zG,dgrV,e1,eInt]⟩
   | true =>
     rw[hb] at hat
     rw[hb,if_pos rfl] at hx2
     simp[hd]
     refine call_step (kF) ?_
     simp[w3,hat]
     refine drawD_of 16 (by kernel_rfl) ?_
     simp[hA,hL,enAnd]
     refine call_step (kM) ?_
     simp
     refine drawD_of 10 (by kernel_rfl) ?_
     simp
     refine app_data vt_el_25 rfl (by simp) rfl (by simp) (by simp) (by first | (simp;done)|(simp;omega)) (by simp[flatP,flatD]) ?_
     simp[w4]
     refine app_data vt_el_26 rfl (by simp) rfl (by simp) (by simp) (by first | (simp;done)|(simp;omega)) (by simp[flatP,flatD]) ?_
     simp[w5,w1]
     exact round_of hI hS hμ (i+1) (by omega) (by omega) ⟨[0,1,2,3,11,5,13,7],by simp[hx2,zG,dgrV,enAnd,e1,e2,eInt];omega⟩
   --]dev
 obtain rfl:i=y.2.2.1.length:=by omega
 clear hI hS hμ
 have hR:swR y keep y.2.2.1.length=((swR y keep y.2.2.1.length).1,(swR y keep y.2.2.1.length).2):=rfl
 generalize (swR y keep y.2.2.1.length).1=an at *
 generalize (swR y keep y.2.2.1.length).2=to at *
 simp[hlt,decide_eq_false hlt]
 refine aw_loopN [false,true,true,false,true,true,false,false,false,true,false,false,false,false,false,false,false,false,false,false,false,false,false,false,false,false,false,false,false,false,false,false,false,false,false,false,false,false,false,false,false,false,false,false,false,false,false,false,false,false,false,false,false,false,false,false,false,false,false,false,false,false,false,false,false,false,false,false,false,false,false,false,false,false,false,false,false,false,false,false,false,false,false,false,false,false,false,false,false,false,false,false,false,false,false,false,false,false,false,false,false] (fun q:Nat=>q≤y.2.1.length) (fun q:Nat=>[(9,.d (.int .i64 q))]) (fun q:Nat=>fun sl=>[dgrV y,zG,.arr 4 true (keep.map (e1 eBool)),.arr 68 true ((mixS to y.2.1 q).map enSeq),.arr 56 true (an.map enAnd),.arr 3 true [],.arr 3 true (to.map (e1 eInt)),.var 28 [.d (.int .i64 y.1),.ref 3,.ref 4,.ref 5]]) (fun q:Nat=>y.2.1.length - q) 0 ?_ ?_ ?_
 · simp
 · exact⟨[0,1,2,3,4,5,6,7],by simp[zG,dgrV,mixS_zero]⟩
 rintro I S μ hI hS hμ q hq
 have hml:=mixS_len (to:=to) (sq:=y.2.1) (i:=q)
 by_cases hlt2:q<y.2.1.length
 · skip
   --[dev
   obtain⟨s,hx1⟩:∃ s,y.2.1[q]? = some s:=⟨_,List.getElem?_eq_getElem hlt2⟩
   have hat:=mixS_at (to:=to) hx1
   have hset:=mixS_set (to:=to) hx1
   have hsm:=List.mem_of_getElem? hx1
   have hf:=hx.2.1 _ hsm
   have kM:=l10Map_con to s.2.2 (by omega) hf (fun l hl=>by have:=hri l (rt_seq hsm hl);omega)
   have hL:(enSeq s).length=3:=rfl
   have hL2:(enSeq (zeroSeq s)).length=3:=rfl
   have w1:IntKind.i64.wrap ((q:Int)+1)=(q:Int)+1:=wrap_id (by omega) (by omega)
   have hd:decide (q<y.2.1.length)=true:=decide_eq_true hlt2
   have hse:((mixS to y.2.1 q).map enSeq).set q [D.int .i64 s.1,D.int .i64 s.2.1,D.sl 3 ((s.2.2.map (plMapV to)).map (e1 eInt))]=(mixS to y.2.1 (q+1)).map enSeq:=by
    rw[←hset,List.map_set]
    simp[enSeq,e3,eInt,eSl,mapSeq]
   generalize hz2:mixS to y.2.1 (q+1)=z2 at *
   generalize mixS to y.2.1 q=z1 at *
   clear hset
   generalize s.2.2.map (plMapV to)=ml at *
   simp[hml,hd]
   refine drawD_of 13 (by kernel_rfl) ?_
   simp[hx1,hL,enSeq]
   refine call_step (kM) ?_
   simp[hat,hL2,enSeq,zeroSeq,hse,w1]
   exact round_of hI hS hμ (q+1) (by omega) (by omega) ⟨[0,1,2,3,4,5,6,7],by simp[hz2]⟩
   --]dev
 obtain rfl:q=y.2.1.length:=by omega
 rw[mixS_all]
 have kM:=l10Map_con to y.2.2.2 (by omega) (by omega) (fun l hl=>by have:=hri l (rt_out hl);omega)
 simp[hml,hlt2,decide_eq_false hlt2]
 refine call_step (kM) ?_
 simp[enGr]
set_option maxRecDepth 100000 in
set_option maxHeartbeats 10000000 in
theorem l10Finish_conT (n:GrD) (to:List Int) (an:List AndD) (hx:fitGr 1048576 n) (hok:netOkB n=true) (h3:an.length≤300) (hp:plIn (firstG n+an.length) to) (ha:andsFit (firstG n) 0 an=true) (ht:to.length=grN n) :
 ConT Try.prog 46 [.agg [.d (.int .i64 n.1),.ref 0,.d (eSl 56 enAnd an),.d (.sl 3 [])],dgr n,.d (eSl 3 (e1 eInt) to)] [.arr 68 true ((n.2.1.map zeroSeq).map enSeq)]
  (dgr (sweptG (n.1,n.2.1.map (mapSeq to),an,n.2.2.2.map (plMapV to)))) [.dead]:=by
 have hz:=place_ok hok h3 hp ha
 have kS:=sSweep_con ((n.1,n.2.1.map (mapSeq to),an,n.2.2.2.map (plMapV to)):GrD) (fitGr_netOk hz) (okGr_netOk hz) hz
 generalize sweptG ((n.1,n.2.1.map (mapSeq to),an,n.2.2.2.map (plMapV to)):GrD)=SG at *
 obtain⟨⟨n1,n2,n3,n4,n5,n6⟩,-,-,-⟩:=netOk_of hok
 obtain⟨hF,hgl,hNi,hno⟩:=ok_sizes hok
 have hri:=rootsN_in hok
 refine conT_ofD (by kernel_rfl) Try.func46 rfl rfl rfl (by simp[laters,Later]) (by simp[lives,Slot.live]) ?_
 simp
 refine aw_loopN [false,false,true,true,true,false,true,true,false,false,false,false,false,false,false,false,false,false,false,false,false,false,false,false,false,false,false,false,false,false,false,false,false,false,false] (fun q:Nat=>q≤n.2.1.length) (fun q:Nat=>[(7,.d (.int .i64 q))]) (fun q:Nat=>fun sl=>[.arr 68 true ((mixS to n.2.1 q).map enSeq),.var 28 [.d (.int .i64 n.1),.ref 0,.d (eSl 56 enAnd an),.d (.sl 3 [])],dgrV n,zG]) (fun q:Nat=>n.2.1.length - q) 0 ?_ ?_ ?_
 · simp
 · exact⟨[0,1,2,3],by simp[zG,dgrV,mixS_zero]⟩
 rintro I S μ hI hS hμ q hq
 have hml:=mixS_len (to:=to) (sq:=n.2.1) (i:=q)
 by_cases hlt2:q<n.2.1.length
 · obtain⟨s,hx1⟩:∃ s,n.2.1[q]? = some s:=⟨_,List.getElem?_eq_getElem hlt2⟩
   have hat:=mixS_at (to:=to) hx1
   have hset:=mixS_set (to:=to) hx1
   have hsm:=List.mem_of_getElem? hx1
   have hf:=hx.2.1 _ hsm
   have kM:=l10Map_con to s.2.2 (by omega) hf (fun l hl=>by have:=hri l (rt_seq hsm hl);omega)
   have hL:(enSeq s).length=3:=rfl
   have hL2:(enSeq (zeroSeq s)).length=3:=rfl
   have w1:IntKind.i64.wrap ((q:Int)+1)=(q:Int)+1:=wrap_id (by omega) (by omega)
   have hd:decide (q<n.2.1.length)=true:=decide_eq_true hlt2
   have hse:((mixS to n.2.1 q).map enSeq).set q [D.int .i64 s.1,D.int .i64 s.2.1,D.sl 3 ((s.2.2.map (plMapV to)).map (e1 eInt))]=(mixS to n.2.1 (q+1)).map enSeq:=by
    rw[←hset,List.map_set]
    simp[enSeq,e3,eInt,eSl,mapSeq]
   generalize hz2:mixS to n.2.1 (q+1)=z2 at *
   generalize mixS to n.2.1 q=z1 at *
   clear hset
   generalize s.2.2.map (plMapV to)=ml at *
   simp[hml,hd]
   refine drawD_of 13 (by kernel_rfl) ?_
   simp[hx1,hL,enSeq]
   refine call_step (kM) ?_
   simp[hat,hL2,enSeq,zeroSeq,hse,w1]
   exact round_of hI hS hμ (q+1) (by omega) (by omega) ⟨[0,1,2,3],by simp[hz2]⟩
 obtain rfl:q=n.2.1.length:=by omega
 rw[mixS_all]
 have kM:=l10Map_con to n.2.2.2 (by omega) (by omega) (fun l hl=>by have:=hri l (rt_out hl);omega)
 have hln:(n.2.1.map (mapSeq to)).length=n.2.1.length:=by simp
 generalize n.2.1.map (mapSeq to)=sq2 at *
 generalize n.2.2.2.map (plMapV to)=o2 at *
 simp[hml,hln,hlt2,decide_eq_false hlt2]
 refine call_step (kM) ?_
 simp
 refine call_step (kS) ?_
 simp[enGr]
 exact⟨[0],by simp⟩
set_option maxRecDepth 100000 in
set_option maxHeartbeats 10000000 in
theorem sHash_conT (x:GrD) (hx:fitGr 1048576 x) (hg:okGr x) (hok:netOkB x=true) (h3:x.2.2.1.length<300):ConT Try.prog 23 [dgr x] [] (dgr (hashG x)) []:=by
 have kO:=sNetOk_con x hx hg
 rw[hok] at kO
 obtain⟨⟨n1,n2,n3,n4,n5,n6⟩,-,-,-⟩:=netOk_of hok
 obtain⟨hF,hgl,hNi,hno⟩:=ok_sizes hok
 have hN:=grN_eq x
 have kE:=l10Empty_con x hx ⟨n1,n2⟩ n3
 obtain⟨m,hm⟩:∃ m:GrD,m=(x.1,x.2.1.map zeroSeq,[],[]):=⟨_,rfl⟩
 have hmF:firstG m=firstG x:=by rw[hm];unfold firstG;simp
 have hmok:netOkB m=true:=by
  have h0:∀ s∈x.2.1,seqOkB (zeroSeq s)=true:=fun s hs=>by
   have:=(netOk_of hok).2.1 s hs
   unfold seqOkB zeroSeq at *
   simpa using this
  have hNm:grN m=firstG x:=by rw[grN_eq,hmF,hm];simp
  refine netOk_mk (by rw[hm];omega) (by rw[hm];simpa using n3) (by rw[hm];simp) (by rw[hm];simp) (fun s hs=>?_) (fun y hy=>by rw[hm] at hy;simp at hy) (fun s hs y hy=>?_) (by rw[hm];rfl)
  · rw[hm] at hs
    obtain⟨s0,hs0,rfl⟩:=List.mem_map.1 hs
    exact h0 s0 hs0
  · rw[hm] at hs
    obtain⟨s0,hs0,rfl⟩:=List.mem_map.1 hs
    obtain⟨y0,-,rfl⟩:=List.mem_map.1 (show y∈s0.2.2.map fun _=>0 from hy)
    have:0<firstG x:=by unfold firstG;omega
    rw[hNm]
    omega
 have hII:=fun i hi=>hs_imp hok i hi
 have hgo:=fun i hi=>hs_go hok h3 i hi
 have hH:hashG x=sweptG (x.1,x.2.1.map (mapSeq (hsR x).1),(hsR x).2.1,x.2.2.2.map (plMapV (hsR x).1)):=rfl
 have hfin:hsR x=impR x (firstG x) (-1) 0 (leafL (firstG x)) [] x.2.2.1.length:=rfl
 have hs0:impR x (firstG x) (-1) 0 (leafL (firstG x)) [] 0=(leafL (firstG x),[],true):=rfl
 have kFin:=l10Finish_conT x (hsR x).1 (hsR x).2.1 hx hok (hII _ (Nat.le_refl _)).an (hII _ (Nat.le_refl _)).pl (hII _ (Nat.le_refl _)).ok (by rw[hfin,(hII _ (Nat.le_refl _)).len (hgo _ (Nat.le_refl _)).1];omega)
 rw[←hH] at kFin
 generalize hashG x=HG at *
 generalize x.2.1.map zeroSeq=zs at *
 refine conT_ofD (by kernel_rfl) Try.func23 rfl rfl rfl (by simp[laters,Later]) (by simp[lives,Slot.live]) ?_
 simp
 refine call_step (kO) ?_
 simp
 refine call_step (kE) ?_
 simp[enGr]
 refine aw_loopN [false,true,true,true,true,true,false,false,false,false,false,false,false,false,false,false,false,false,false,false,false,false,false,false,false,false,false,false,false,false,false,false,false,false,false,false,false,false,false,false,false,false,false,false,false,false,false,false,false,false,false,false,false,false,false,false,false,false,false,false,false,false,false,false,false,false,false,false,false,false,false,false,false,false] (fun i:Nat=>i≤x.2.2.1.length) (fun i:Nat=>[(3,.ptr 3 0),(4,.ref 2),(5,.d (.int .i64 i))]) (fun i:Nat=>fun sl=>[dgrV x,zG,.arr 3 true ((impR x (firstG x) (-1) 0 (leafL (firstG x)) [] i).1.map (e1 eInt)),.var 28 [.d (.int .i64 x.1),.ref 4,.ref 5,.ref 6],.arr 68 true (zs.map enSeq),.arr 56 true ((impR x (firstG x) (-1) 0 (leafL (firstG x)) [] i).2.1.map enAnd),.arr 3 true []]) (fun i:Nat=>x.2.2.1.length - i) 0 ?_ ?_ ?_
 · simp
 · exact⟨[0,1,5,6,2,3,4],by simp[zG,dgrV,hs0]⟩
 rintro I S μ hI hS hμ i hi
 have q1:=hII i hi
 obtain⟨g1,g2⟩:=hgo i hi
 by_cases hlt:i<x.2.2.1.length
 · obtain⟨hA,a1,a2,a3,a4,a5,a6⟩:=and_at hok (v:=firstG x+i) (by omega) (by omega)
   rw[Nat.add_sub_cancel_left] at hA
   have hd:=decide_eq_true hlt
   obtain⟨g3,g4⟩:=hgo (i+1) (by omega)
   obtain⟨⟨to,an,bb⟩,hst⟩:∃ s,impR x (firstG x) (-1) 0 (leafL (firstG x)) [] i=s:=⟨_,rfl⟩
   rw[hst] at g1 g2 q1
   simp only at g1 g2
   subst g1
   have hl:=q1.len rfl
   have hpl:=q1.pl
   have ha3:=q1.an
   have han:=q1.ok
   simp only at hl hpl ha3 han
   have hstp:impR x (firstG x) (-1) 0 (leafL (firstG x)) [] (i+1)=(to++[addV (firstG x) an (plMapV to (andAt x (firstG x+i)).1) (plMapV to (andAt x (firstG x+i)).2)],addN an (plMapV to (andAt x (firstG x+i)).1) (plMapV to (andAt x (firstG x+i)).2),true):=by
    rw[impR,hst] at g3 ⊢
    simp only[Bool.true_eq_false,if_false] at g3 ⊢
    rw[if_neg (by omega)] at g3 ⊢
    split
    · rename_i hneg;rw[if_pos hneg] at g3;simp at g3
    · rfl
   rw[hst]
   have w1:IntKind.i64.wrap ((i:Int)+1)=(i:Int)+1:=wrap_id (by omega) (by omega)
   have r1:=mapV_rng (l:=(andAt x (firstG x+i)).1) (plIn_at hpl (by omega) ((andAt x (firstG x+i)).1 / 2)) (by omega)
   have r2:=mapV_rng (l:=(andAt x (firstG x+i)).2) (plIn_at hpl (by omega) ((andAt x (firstG x+i)).2 / 2)) (by omega)
   have t1:=at_read (lv:=to) (k:=(andAt x (firstG x+i)).1 / 2) (by omega)
   have t2:=at_read (lv:=to) (k:=(andAt x (firstG x+i)).2 / 2) (by omega)
   have m1:xor64 (atI to ((andAt x (firstG x+i)).1 / 2)) ((andAt x (firstG x+i)).1 % 2)=plMapV to (andAt x (firstG x+i)).1:=rfl
   have m2:xor64 (atI to ((andAt x (firstG x+i)).2 / 2)) ((andAt x (firstG x+i)).2 % 2)=plMapV to (andAt x (firstG x+i)).2:=rfl
   have b1:=and64_one (andAt x (firstG x+i)).1
   have b2:=and64_one (andAt x (firstG x+i)).2
   have w2:IntKind.i64.wrap ((andAt x (firstG x+i)).1.tdiv 2)=(andAt x (firstG x+i)).1 / 2:=by rw[Int.tdiv_eq_ediv_of_nonneg a1];exact wrap_id (by omega) (by omega)
   have w3:IntKind.i64.wrap ((andAt x (firstG x+i)).2.tdiv 2)=(andAt x (firstG x+i)).2 / 2:=by rw[Int.tdiv_eq_ediv_of_nonneg a2];exact wrap_id (by omega) (by omega)
   have z1:¬ (andAt x (firstG x+i)).1 / 2<0:=by omega
   have z2:¬ (andAt x (firstG x+i)).2 / 2<0:=by omega
   generalize atI to ((andAt x (firstG x+i)).1 / 2)=p1 at *
   generalize atI to ((andAt x (firstG x+i)).2 / 2)=p2 at *
   generalize (andAt x (firstG x+i)).1 / 2=d1 at *
   generalize (andAt x (firstG x+i)).2 / 2=d2 at *
   generalize plMapV to (andAt x (firstG x+i)).1=x1 at *
   generalize plMapV to (andAt x (firstG x+i)).2=x2 at *
   generalize andAt x (firstG x+i)=A at *
   have hL:(enAnd A).length=2:=rfl
   have hokA:netOkB (withA m an)=true:=netOk_withA hmok (by rw[hm];simp) ha3 (by rw[hmF];exact han)
   have hwN:(grN (withA m an):Int)=firstG x+an.length:=by rw[grN_withA,hmF];omega
   have kD:=sAddAnd_con (withA m an) x1 x2 hokA (by omega) (by omega)
   rw[sAddL_ok (by omega) (by omega)] at kD
   have e1':withA (withA m an) (addN (withA m an).2.2.1 x1 x2)=withA m (addN an x1 x2):=rfl
   have e2':addV (firstG (withA m an)) (withA m an).2.2.1 x1 x2=addV (firstG m) an x1 x2:=rfl
   rw[e1',e2',hmF] at kD
   generalize addV (firstG x) an x1 x2=v at *
   generalize addN an x1 x2=an2 at *
   rw[hm] at kD
   simp[hd]
   refine drawE_of [(42,[40]),(43,[])] (by kernel_rfl) ?_
   simp[hA,hL,enAnd,t1,t2,m1,m2,b1,b2,w2,w3,z1,z2]
   refine call_step (kD) ?_
   simp[withA,enGr]
   refine app_data vt_el_26 rfl (by simp) rfl (by simp) (by simp) (by first | (simp;done)|(simp;omega)) (by simp[flatP,flatD]) ?_
   simp[w1]
   exact round_of hI hS hμ (i+1) (by omega) (by omega) ⟨[0,1,12,3,7,8,9],by simp[hstp,zG,dgrV,e1,eInt]⟩
 obtain rfl:i=x.2.2.1.length:=by omega
 rw[←hfin]
 generalize hsR x=R at *
 simp[hlt,decide_eq_false hlt]
 refine callT_step (kFin) [2,5,6] [4] (by simp) ?_
 simp
 exact⟨[],by simp⟩
end Go.Proofs.Ytakohcpfjkcfdaa
