/-
  The sequential elements that can be observed, and links to them, by abstract walks: the reference.
  Conditions: those typed in each theorem.
-/
import Derived.Test.YtnjedabjbeipeaaRc
namespace Go.Proofs.Ytnjedabjbeipeaa
open Go.RowKit Go.ChangeShapes Go.WideShapes
set_option linter.unusedVariables false
set_option linter.unusedSimpArgs false
attribute [local simp ↓] condG_true condG_false condB_true condB_false
attribute [local simp] AWp_skip AWp_region_t AWp_region_d AWp_region_f still_mk AWp_seq AWp_cond condV_bool condB AWp_block AWp_exit AWp_ret
attribute [local simp] AOps_nil AOp_move AOp_assign AOp_pick AOp_binOp AOp_unOp AOp_convert AOp_len AOp_max AOp_min AOp_indexAddr AOp_load
attribute [local simp] AOp_fieldAddr AOp_field AOp_extract AOp_nilCheck AOp_build AOp_alloc AOp_box AOp_call AOp_store AOp_append AOp_buildSlice nextB_some
attribute [local simp] nextB_none adoptO adoptC AOp_makeSlice AOp_slice AOp_makeFunc AOp_guard guardD_some guardG_bool guardG_undef nextO_some nextS_some
attribute [local simp] nextZ_some nextL_some nextM_some nextT_some sliceO sliceL sliceT partO partV boundV funcO pickO
attribute [local simp] convO lenO maxO minO idxO extO nilO buildO litO litC makeO chunks
attribute [local simp] fillV placeOf thenA inBlockA St.get St.put St.eval ofCell evalT abin_add abin_sub abin_mul
attribute [local simp] abin_quo abin_rem abin_and abin_or abin_xor abin_andNot abin_shl abin_shr abin_shlu abin_eql abin_eqp abin_neq
attribute [local simp] abin_lss abin_leq abin_gtr abin_geq abin_eqlb abin_neqb aun pickV lenV intOf? indexV takeD
attribute [local simp] takeV loadV fieldAddrV fieldV ofX presD presDs pres presAll cellsV V.cell storeV
attribute [local simp] freezeC putAt kill takeC plains plainV scalarV nat_neg keepT sets eSl e1
attribute [local simp] e2 e3 e4 eInt eBool abinS_d abinS_agg abinS nilEq abin_eqb AOp_makeMap AOp_lookup
attribute [local simp] AOp_mapUpdate lookG_some updG_some mapV kyOf vlOf lookV vlV buildA afterCall inst inst1
attribute [local simp] inst1s instD instDs RetA resVs resV gives give1 give1s Le isPin leSlots
attribute [local simp] leS leTmps leV le0 le0s ren ren0 renS ren0s frame enterT afterT_some
attribute [local simp] afterC_some lives Slot.live arrsOk viewV view0 renT rens renSs setAll List.range'_succ RetT
attribute [local simp] RetW joinV leT AOpsE_nil AOpsE_cons AOpsT_nil AOpsT_cons isCallT isFnO callOf callVC_fn condC_true
attribute [local simp] condC_false beginT_mk beginX_mk AOpsX_zero thenT_mk pickE pickT isT loose namesOf namesV names1
attribute [local simp] names0 stableN sameAt Op.operands Call.operands
theorem smD_set {s:List Bool} {v:Nat}:(s.map (e1 eBool)).set v [.bool true]=(setN s v).map (e1 eBool):=map_setB
theorem setN_len {s:List Bool} {v:Nat}:(setN s v).length=s.length:=by simp[setN]
set_option maxRecDepth 100000 in
set_option maxHeartbeats 2000000 in
theorem l15Marks_con (x:GrD) (hx:fitGr 1048576 x) (hok:netOkB x=true):ConC Try.prog 132 [igr x] (bools (obsB x)):=by
 obtain⟨⟨n1,n2,n3,n4,n5,n6⟩,-,o2,-⟩:=netOk_of hok
 obtain⟨hF,hgl,hNi,hno⟩:=ok_sizes hok
 have hN:=grN_eq x
 have hGQ:=firstG_eq (x:=x)
 have hQ:(firstQ x:Int)=1+x.1:=by unfold firstQ;omega
 have hfin:=rounds_obs hok
 have hNt:(1+x.1+(x.2.1.length:Int)+(x.2.2.1.length:Int)).toNat=grN x:=by omega
 have hrep:List.replicate (grN x) [D.bool false]=(List.replicate (grN x) false).map (e1 eBool):=rep_bools
 have hO:outM x=(x.2.2.2.map litN).foldl setN (List.replicate (grN x) false):=rfl
 refine con_of (by kernel_rfl) Try.func132 rfl rfl rfl ?_
 simp[enGr]
 refine call_step (sNodeCount_con x) ?_
 simp[enGr]
 rw[hno]
 refine⟨⟨by omega,by omega⟩,?_⟩
 rw[Int.toNat_natCast,hrep]
 simp
 refine aw_loopU [false,true,false,true,true,false,false,false,false,false,false,false,false,false,false,false,false,false,false,false,false,false,false,false,false,false,false,false,false,false,false,false,false,false,false,false,false,false,false,false,false,false,false,false,false,false,false,false,false,false,false,false,false,false,false,false,false,false,false,false,false,false,false,false,false,false,false,false,false,false,false,false,false,false,false,false,false,false,false] (fun i:Nat×List Bool=>i.1≤x.2.2.2.length∧i.2=((x.2.2.2.map litN).take i.1).foldl setN (List.replicate (grN x) false)∧i.2.length=grN x) (fun i:Nat×List Bool=>[(4,.d (.int .i64 i.1))]) (fun i:Nat×List Bool=>[(1,.arr 4 true (i.2.map (e1 eBool)))]) (fun i:Nat×List Bool=>x.2.2.2.length - i.1) (0,List.replicate (grN x) false) ?_ ?_ ?_
 · exact⟨Nat.zero_le _,rfl,by simp⟩
 · exact⟨[0,1],by simp⟩
 rintro I S μ hI hS hμ ⟨i,m⟩ ⟨hi,hm,hml⟩
 simp only at hi hm hml
 by_cases hlt:i<x.2.2.2.length
 · have hx1:x.2.2.2[i]? = some x.2.2.2[i]:=List.getElem?_eq_getElem hlt
   have hx2:(x.2.2.2.map litN)[i]? = some (litN x.2.2.2[i]):=by rw[List.getElem?_map,hx1];rfl
   obtain⟨g1,g2⟩:=root_lt hok (outs_root (List.getElem_mem hlt))
   have hf:=foldl_take (f:=setN) (b:=List.replicate (grN x) false) hx2
   rw[←hm] at hf
   have g3:x.2.2.2[i]≤1048576:=by have:litN x.2.2.2[i]=x.2.2.2[i].toNat / 2:=rfl;omega
   have q:=lit_quo g1 g3
   have w1:IntKind.i64.wrap ((i:Int)+1)=(i:Int)+1:=wrap_id (by omega) (by omega)
   have hset:=smD_set (s:=m) (v:=litN x.2.2.2[i])
   have hsl:=setN_len (s:=m) (v:=litN x.2.2.2[i])
   have hat:=getB_at (s:=m) (v:=litN x.2.2.2[i]) (by omega)
   generalize setN m (litN x.2.2.2[i])=m2 at *
   generalize litN x.2.2.2[i]=v at *
   generalize x.2.2.2[i]=l at *
   simp[decide_eq_true hlt,hx1,q,hset,hat,w1]
   exact round_of hI hS hμ (i+1,m2) ⟨by omega,hf.symm,by simp only;omega⟩ (by simp;omega) ⟨[0,1],by simp⟩
 obtain rfl:i=x.2.2.2.length:=by omega
 rw[List.take_of_length_le (by simp),←hO] at hm
 subst hm
 clear hI hS hμ
 simp[decide_eq_false hlt,hlt]
 refine aw_loopU [false,true,false,true,false,true,false,false,false,false,false,false,false,false,false,false,false,false,false,false,false,false,false,false,false,false,false,false,false,false,false,false,false,false,false,false,false,false,false,false,false,false,false,false,false,false,false,false,false,false,false,false,false,false,false,false,false,false,false,false,false,false,false,false,false,false,false,false,false,false,false,false,false,false,false,false,false,false,false] (fun r:Nat=>r≤x.2.1.length+1) (fun r:Nat=>[(5,.d (.int .i64 r))]) (fun r:Nat=>[(1,.arr 4 true ((rdK x (outM x) r).map (e1 eBool)))]) (fun r:Nat=>x.2.1.length+1 - r) 0 ?_ ?_ ?_
 · exact Nat.zero_le _
 · exact⟨[0,1],by simp[rdK]⟩
 rintro I S μ hI hS hμ r hr
 obtain⟨rl,ro,-⟩:=rdK_facts hok r
 by_cases hle:r≤x.2.1.length
 case neg =>
  obtain rfl:r=x.2.1.length+1:=by omega
  simp[show ¬ (x.2.1.length:Int)+1≤x.2.1.length by omega]
  rw[←hfin]
  refine call_step (sMark_con x (rdK x (outM x) (x.2.1.length+1)) hx hok rl) ?_
  simp[enGr]
 have hstep:rdK x (outM x) (r+1)=msK x (sweepG x (rdK x (outM x) r)) x.2.1.length:=rfl
 obtain⟨so,-,-⟩:=sweepG_facts hok rl ro
 have sl:(sweepG x (rdK x (outM x) r)).length=grN x:=by rw[sweepG_len,rl]
 have kM:=sMark_con x (rdK x (outM x) r) hx hok rl
 generalize sweepG x (rdK x (outM x) r)=m at *
 have hmf:=msK_facts hok sl so
 have w1:IntKind.i64.wrap ((r:Int)+1)=(r:Int)+1:=wrap_id (by omega) (by omega)
 simp[show (r:Int)≤x.2.1.length by omega]
 refine call_step (kM) ?_
 simp[enGr]
 refine aw_loopU [false,true,false,true,false,true,true,false,false,false,false,false,false,false,false,false,false,false,false,false,false,false,false,false,false,false,false,false,false,false,false,false,false,false,false,false,false,false,false,false,false,false,false,false,false,false,false,false,false,false,false,false,false,false,false,false,false,false,false,false,false,false,false,false,false,false,false,false,false,false,false,false,false,false,false,false,false,false,false] (fun i:Nat=>i≤x.2.1.length) (fun i:Nat=>[(6,.d (.int .i64 i))]) (fun i:Nat=>[(2,.arr 4 true ((msK x m i).map (e1 eBool)))]) (fun i:Nat=>x.2.1.length - i) 0 ?_ ?_ ?_
 · exact Nat.zero_le _
 · exact⟨[0,1,2],by simp[msK]⟩
 rintro I2 S2 μ2 hI2 hS2 hμ2 i hi
 by_cases hlt2:i<x.2.1.length
 case neg =>
  obtain rfl:i=x.2.1.length:=by omega
  simp[decide_eq_false hlt2,hlt2,w1]
  exact round_of hI hS hμ (r+1) (by omega) (by omega) ⟨[0,2],by simp[hstep]⟩
 have hnx:msK x m (i+1)=if getB (msK x m i) (firstQ x+i)=true then ((seqAt x i).2.2.map litN).foldl setN (msK x m i) else msK x m i:=rfl
 obtain⟨ml,mo,-,-⟩:=hmf i (by omega)
 obtain⟨e1',e2'⟩:=seqAt_mem hlt2
 have hro:∀ l∈(seqAt x i).2.2,0≤l∧litN l<grN x:=fun l hl=>root_lt hok (seq_root hlt2 hl)
 have hfit:(seqAt x i).2.2.length≤1048576:=hx.2.1 _ e2'
 have hLs:(enSeq (seqAt x i)).length=3:=rfl
 have w2:IntKind.i64.wrap ((i:Int)+1)=(i:Int)+1:=wrap_id (by omega) (by omega)
 have w3:IntKind.i64.wrap (1+x.1)=1+x.1:=wrap_id (by omega) (by omega)
 have w4:IntKind.i64.wrap (1+x.1+(i:Int))=((firstQ x+i:Nat):Int):=by rw[wrap_id (by omega) (by omega)];omega
 have hvq:firstQ x+i<grN x:=by omega
 generalize msK x m i=s at *
 obtain⟨s',hs'⟩:∃ s',msK x m (i+1)=s':=⟨_,rfl⟩
 rw[hs'] at hnx
 generalize firstQ x+i=v at *
 generalize seqAt x i=sq at *
 have hlen2:(sq.2.2.length:Int)≤1048576:=by omega
 generalize hins:sq.2.2=ins at *
 simp[decide_eq_true hlt2]
 rcases Bool.eq_false_or_eq_true (getB s v) with hb|hb
 case inr =>
  rw[hb,if_neg (by simp)] at hnx
  have hat:=getB_at (s:=s) (v:=v) (by omega)
  refine aw_loopU [false,true,false,true,false,true,true,true,false,false,false,false,false,false,false,false,false,false,false,false,false,false,false,false,false,false,false,false,false,false,false,false,false,false,false,false,false,false,false,false,false,false,false,false,false,false,false,false,false,false,false,false,false,false,false,false,false,false,false,false,false,false,false,false,false,false,false,false,false,false,false,false,false,false,false,false,false,false,false] (fun j:Unit=>True) (fun j:Unit=>[(7,.d (.int .i64 0))]) (fun j:Unit=>[]) (fun j:Unit=>0) () ?_ ?_ ?_
  · exact trivial
  · exact⟨[0,1,2],by simp⟩
  rintro I3 S3 μ3 hI3 hS3 hμ3 j -
  by_cases hl0:0<ins.length
  · simp[e1',hLs,enSeq,hins,decide_eq_true hl0,w3,w4,hat,hb,w2]
    exact round_of hI2 hS2 hμ2 (i+1) (by omega) (by omega) ⟨[0,1,2],by simp[hs',hnx]⟩
  · simp[e1',hLs,enSeq,hins,decide_eq_false hl0,w2]
    exact round_of hI2 hS2 hμ2 (i+1) (by omega) (by omega) ⟨[0,1,2],by simp[hs',hnx]⟩
 case inl =>
  rw[hb,if_pos rfl] at hnx
  refine aw_loopU [false,true,false,true,false,true,true,true,false,false,false,false,false,false,false,false,false,false,false,false,false,false,false,false,false,false,false,false,false,false,false,false,false,false,false,false,false,false,false,false,false,false,false,false,false,false,false,false,false,false,false,false,false,false,false,false,false,false,false,false,false,false,false,false,false,false,false,false,false,false,false,false,false,false,false,false,false,false,false] (fun j:Nat×List Bool=>j.1≤ins.length∧j.2=((ins.map litN).take j.1).foldl setN s∧j.2.length=grN x∧getB j.2 v=true) (fun j:Nat×List Bool=>[(7,.d (.int .i64 j.1))]) (fun j:Nat×List Bool=>[(2,.arr 4 true (j.2.map (e1 eBool)))]) (fun j:Nat×List Bool=>ins.length - j.1) (0,s) ?_ ?_ ?_
  · exact⟨Nat.zero_le _,rfl,ml,hb⟩
  · exact⟨[0,1,2],by simp⟩
  rintro I3 S3 μ3 hI3 hS3 hμ3 ⟨j,s3⟩ ⟨hj,h3,h3l,h3b⟩
  simp only at hj h3 h3l h3b
  by_cases hlt3:j<ins.length
  · have hx1:ins[j]? = some ins[j]:=List.getElem?_eq_getElem hlt3
    have hx2:(ins.map litN)[j]? = some (litN ins[j]):=by rw[List.getElem?_map,hx1];rfl
    obtain⟨g1,g2⟩:=hro _ (List.getElem_mem hlt3)
    have hf:=foldl_take (f:=setN) (b:=s) hx2
    rw[←h3] at hf
    have g3:ins[j]≤1048576:=by have:litN ins[j]=ins[j].toNat / 2:=rfl;omega
    have q:=lit_quo g1 g3
    have w5:IntKind.i64.wrap ((j:Int)+1)=(j:Int)+1:=wrap_id (by omega) (by omega)
    have hset:=smD_set (s:=s3) (v:=litN ins[j])
    have hsl:=setN_len (s:=s3) (v:=litN ins[j])
    have hat:=getB_at (s:=s3) (v:=litN ins[j]) (by omega)
    have hat2:=getB_at (s:=s3) (v:=v) (by omega)
    have h4b:getB (setN s3 (litN ins[j])) v=true:=by unfold setN;rw[getB_set (by omega),h3b];simp
    generalize setN s3 (litN ins[j])=s4 at *
    generalize litN ins[j]=u at *
    generalize ins[j]=l at *
    simp[e1',hLs,enSeq,hins,decide_eq_true hlt3,w3,w4,hat2,h3b,hx1,q,hset,hat,w5]
    exact round_of hI3 hS3 hμ3 (j+1,s4) ⟨by omega,hf.symm,by simp only;omega,h4b⟩ (by simp;omega) ⟨[0,1,2],by simp⟩
  · obtain rfl:j=ins.length:=by omega
    rw[List.take_of_length_le (by simp),←hnx] at h3
    subst h3
    simp[e1',hLs,enSeq,hins,decide_eq_false hlt3,hlt3,w2]
    exact round_of hI2 hS2 hμ2 (i+1) (by omega) (by omega) ⟨[0,1,2],by simp[hs']⟩
set_option maxRecDepth 100000 in
theorem sKept_con (x:GrD) (hx:fitGr 1048576 x) (hg:okGr x):ConC Try.prog 155 [igr x] (ints (keptG x)):=by
 have hB:keptG x=if netOkB x=true then keptK (obsB x) (firstQ x) x.2.1.length else []:=rfl
 have kok:=sNetOk_con x hx hg
 refine con_of (by kernel_rfl) Try.func155 rfl rfl rfl ?_
 simp[enGr]
 cases hok:netOkB x with
 | false =>
   rw[if_neg (by simp[hok])] at hB
   rw[hok] at kok
   refine call_step (kok) ?_
   simp[enGr,hB]
 | true =>
 rw[if_pos hok] at hB
 obtain⟨⟨n1,n2,n3,n4,n5,n6⟩,-,-,-⟩:=netOk_of hok
 obtain⟨hF,hgl,hNi,hno⟩:=ok_sizes hok
 have hN:=grN_eq x
 have hGQ:=firstG_eq (x:=x)
 have hQ:(firstQ x:Int)=1+x.1:=by unfold firstQ;omega
 rw[hok] at kok
 have hol:=obsB_len (x:=x)
 refine call_step (kok) ?_
 simp[enGr]
 refine call_step (l15Marks_con x hx hok) ?_
 simp[enGr]
 rw[hB]
 generalize obsB x=m at *
 refine aw_loopU [false,true,false,true,true,true,false,false,false,false,false,false,false,false,false,false,false,false,false,false,false,false,false,false,false,false,false,false,false,false,false,false,false] (fun i:Nat=>i≤x.2.1.length) (fun i:Nat=>[(5,.d (.int .i64 i))]) (fun i:Nat=>[(1,.arr 3 true ((keptK m (firstQ x) i).map (e1 eInt)))]) (fun i:Nat=>x.2.1.length - i) 0 ?_ ?_ ?_
 · simp
 · exact⟨[0,1,2],by simp[keptK]⟩
 rintro I S μ hI hS hμ i hi
 by_cases hlt:i<x.2.1.length
 · have hat:=getB_at (s:=m) (v:=firstQ x+i) (by omega)
   have w0:IntKind.i64.wrap (1+x.1)=1+x.1:=wrap_id (by omega) (by omega)
   have w1:IntKind.i64.wrap (1+x.1+(i:Int))=((firstQ x+i:Nat):Int):=by rw[wrap_id (by omega) (by omega)];omega
   have w2:IntKind.i64.wrap ((i:Int)+1)=(i:Int)+1:=wrap_id (by omega) (by omega)
   have hd:decide (i<x.2.1.length)=true:=decide_eq_true hlt
   have hnx:keptK m (firstQ x) (i+1)=if getB m (firstQ x+i)=true then keptK m (firstQ x) i++[(i:Int)] else keptK m (firstQ x) i:=rfl
   have hll:=keptK_len (m:=m) (q:=firstQ x) i
   generalize keptK m (firstQ x) i=ms at *
   generalize firstQ x+i=v at *
   rcases Bool.eq_false_or_eq_true (getB m v) with hb|hb
   · rw[hb,if_pos rfl] at hnx
     simp[hd,w0,w1,hat,hb]
     refine app_data vt_el_26 rfl (by simp) rfl (by simp) (by simp) (by first | (simp;done)|(simp;omega)) (by simp[flatP,flatD]) ?_
     simp[w2]
     exact round_of hI hS hμ (i+1) (by omega) (by omega) ⟨[0,4,2],by simp[hnx,e1,eInt]⟩
   · rw[hb,if_neg (by simp)] at hnx
     simp[hd,w0,w1,hat,hb,w2]
     exact round_of hI hS hμ (i+1) (by omega) (by omega) ⟨[0,1,2],by simp[hnx]⟩
 · obtain rfl:i=x.2.1.length:=by omega
   simp[hlt]
set_option maxRecDepth 100000 in
theorem l25Kept_con (x:GrD) (hx:fitGr 1048576 x) (hg:okGr x):ConC Try.prog 134 [igr x] (ilk (lkP (keptG x))):=by
 have kk:=sKept_con x hx hg
 have hl:=keptG_len (x:=x)
 refine con_of (by kernel_rfl) Try.func134 rfl rfl rfl ?_
 simp[enGr]
 generalize keptG x=is at *
 refine call_step (kk) ?_
 simp[enGr]
 refine aw_loopU [false,false,false,true,true,true,false,false,false,false,false,false,false,false,false,false,false,false,false,false,false,false,false,false,false] (fun i:Nat=>i≤is.length) (fun i:Nat=>[(5,.d (.int .i64 i))]) (fun i:Nat=>[(1,.arr 44 true ((lkP (is.take i)).map enLink))]) (fun i:Nat=>is.length - i) 0 ?_ ?_ ?_
 · simp
 · exact⟨[0,1,2],by simp[lkP]⟩
 rintro I S μ hI hS hμ i hi
 by_cases hlt:i<is.length
 · have hx1:is[i]? = some is[i]:=List.getElem?_eq_getElem hlt
   have hnx:=congrArg lkP (take_snoc' hx1)
   rw[lkP_snoc] at hnx
   have hll:(lkP (is.take i)).length=i:=by simp[lkP];omega
   have w2:IntKind.i64.wrap ((i:Int)+1)=(i:Int)+1:=wrap_id (by omega) (by omega)
   generalize is[i]=y at *
   generalize lkP (is.take i)=ms at *
   simp[decide_eq_true hlt,hx1]
   first | refine app_lit (q:=1) vt_el_34 (by exact rfl) (by simp) (by exact rfl) (by exact rfl) (by simp) (by simp) (by first | (simp;done)|(simp;omega)) ?_|refine app_row vt_el_34 (by exact rfl) (by simp) (by exact rfl) (by simp) (by first | (simp;done)|(simp;omega)) ?_
   simp[w2]
   exact round_of hI hS hμ (i+1) (by omega) (by omega) ⟨[0,5,2],by simp[hnx,enLink,e1,e2,eInt]⟩
 · obtain rfl:i=is.length:=by omega
   rw[List.take_length]
   simp[hlt,decide_eq_false hlt]
theorem sPruneLinks_con (x:GrD) (hx:fitGr 1048576 x) (hg:okGr x):ConC Try.prog 93 [igr x] (ilk (lkP (keptG x))):=by
 have kok:=sNetOk_con x hx hg
 refine con_of (by kernel_rfl) Try.func93 rfl rfl rfl ?_
 simp[enGr]
 cases hok:netOkB x with
 | false =>
   have hB:keptG x=[]:=by unfold keptG;rw[if_neg (by simp[hok])]
   rw[hok] at kok
   refine call_step (kok) ?_
   simp[enGr,hB,lkP]
 | true =>
   rw[hok] at kok
   refine call_step (kok) ?_
   simp[enGr]
   refine call_step (l25Kept_con x hx hg) ?_
   simp[enGr]
end Go.Proofs.Ytnjedabjbeipeaa
