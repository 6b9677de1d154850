/-
  The reference's cuts below a height, by abstract walks.
  Conditions: those typed in each theorem.
-/
import Derived.Test.YtakohcpfjkcfdaaFg
namespace Go.Proofs.Ytakohcpfjkcfdaa
open Go.RowKit Go.ChangeShapes Go.WideShapes
set_option linter.unusedVariables false
set_option linter.unusedSimpArgs false
attribute [local simp ↓] condG_true condG_false condB_true condB_false
attribute [local simp] AWp_skip AWp_region_t AWp_region_d AWp_region_f still_mk AWp_seq AWp_cond condV_bool condB AWp_block AWp_exit AWp_ret
attribute [local simp] AOps_nil AOp_move AOp_assign AOp_pick AOp_binOp AOp_unOp AOp_convert AOp_len AOp_max AOp_min AOp_indexAddr AOp_load
attribute [local simp] AOp_fieldAddr AOp_field AOp_extract AOp_nilCheck AOp_build AOp_alloc AOp_box AOp_call AOp_store AOp_append AOp_buildSlice nextB_some
attribute [local simp] nextB_none adoptO adoptC AOp_makeSlice AOp_slice AOp_makeFunc AOp_guard guardD_some guardG_bool guardG_undef nextO_some nextS_some
attribute [local simp] nextZ_some nextL_some nextM_some nextT_some sliceO sliceL sliceT partO partV boundV funcO pickO
attribute [local simp] convO lenO maxO minO idxO extO nilO buildO litO litC makeO chunks
attribute [local simp] fillV placeOf thenA inBlockA St.get St.put St.eval ofCell evalT abin_add abin_sub abin_mul
attribute [local simp] abin_quo abin_rem abin_and abin_or abin_xor abin_andNot abin_shl abin_shr abin_shlu abin_eql abin_eqp abin_neq
attribute [local simp] abin_lss abin_leq abin_gtr abin_geq abin_eqlb abin_neqb aun pickV lenV intOf? indexV takeD
attribute [local simp] takeV loadV fieldAddrV fieldV ofX presD presDs pres presAll cellsV V.cell storeV
attribute [local simp] freezeC putAt kill takeC plains plainV scalarV nat_neg keepT sets eSl e1
attribute [local simp] e2 e3 e4 eInt eBool abinS_d abinS_agg abinS nilEq abin_eqb AOp_makeMap AOp_lookup
attribute [local simp] AOp_mapUpdate lookG_some updG_some mapV kyOf vlOf lookV vlV buildA afterCall inst inst1
attribute [local simp] inst1s instD instDs RetA resVs resV gives give1 give1s Le isPin leSlots
attribute [local simp] leS leTmps leV le0 le0s ren ren0 renS ren0s frame enterT afterT_some
attribute [local simp] afterC_some lives Slot.live arrsOk viewV view0 renT rens renSs setAll List.range'_succ RetT
attribute [local simp] RetW joinV leT AOpsE_nil AOpsE_cons AOpsT_nil AOpsT_cons isCallT isFnO callOf callVC_fn condC_true
attribute [local simp] condC_false beginT_mk thenT_mk pickE pickT isT loose namesOf namesV names1 names0 stableN
attribute [local simp] sameAt Op.operands Call.operands
theorem netF_of {x:GrD} (hok:netOkB x=true):NetF (grN x) (firstG x) (kidA x) (kidB x) (coneL x) :=
 ⟨by unfold firstG;omega,fun p h1 h2=>kids_lt hok p h1 h2,fun v hv u=>cone_iff hok hv u⟩
def mkN (s:List Bool):List Nat:=(List.range s.length).filter (getB s)
theorem mkN_marks {s:List Bool}:marksI s=natI (mkN s):=rfl
theorem mkN_mem {s:List Bool} {k:Nat}:k∈mkN s↔getB s k=true:=by
 unfold mkN
 rw[List.mem_filter,List.mem_range]
 exact⟨fun h=>h.2,fun h=>⟨getB_len h,h⟩⟩
theorem mkN_len {s:List Bool}:(mkN s).length≤s.length:=by
 have:=List.length_filter_le (getB s) (List.range s.length)
 simpa [mkN] using this
def valU (lab:List Int) (h:Int) (v c:Nat):Bool:=decide (c=v)||decide (h≤getZ lab c)
def putU (f:Nat→Bool) (s:List Bool) (c:Nat):List Bool:=s.set c (f c)
theorem putU_len {f:Nat→Bool}:∀ (ts:List Nat) (s:List Bool),(ts.foldl (putU f) s).length=s.length
 | [],s=>rfl
 | t::ts,s=>by rw[List.foldl_cons,putU_len ts];simp[putU]
theorem putU_get {f:Nat→Bool}:∀ (ts:List Nat) (s:List Bool),(∀ t∈ts,t<s.length)→∀ k,getB (ts.foldl (putU f) s) k=if k∈ts then f k else getB s k
 | [],s,_,k=>by simp
 | t::ts,s,h,k=>by
   rw[List.foldl_cons,putU_get ts (putU f s t) (fun u hu=>by simpa [putU] using h u (by simp[hu])) k]
   unfold putU
   rw[getB_put (h t (by simp))]
   by_cases h1:k∈ts
   · simp[h1]
   · by_cases h2:k=t
     · subst h2;simp[h1]
     · simp[h1,h2]
theorem up_all {x:GrD} {v:Nat} {h:Int} {lab:List Int} (hok:netOkB x=true) (hv:v<grN x):(mkN (coneL x v)).foldl (putU (valU lab h v)) (List.replicate (grN x) false)=upL (grN x) (coneL x) v h lab:=by
 refine getB_ext (by rw[putU_len];simp[upL]) fun k=>?_
 have hN:=netF_of hok
 rw[putU_get _ _ (fun t ht=>by simpa using (by have:=getB_len (mkN_mem.1 ht);rw[coneL_len] at this;exact this)) k,upL_get,getB_rep]
 by_cases hk:getB (coneL x v) k=true
 · have hkN:k<grN x:=by have:=getB_len hk;rwa [coneL_len] at this
   rw[if_pos (mkN_mem.2 hk),hk]
   simp[valU,hkN]
 · rw[if_neg (fun h=>hk (mkN_mem.1 h))]
   have hkv:k≠v:=fun e=>hk (by rw[e];exact (hN.cone v hv v).2 (.refl v))
   have:getB (coneL x v) k=false:=by simpa using hk
   rw[this]
   simp[hkv]
def BndZ (N:Nat) (ab:List Int):Prop:=∀ k,-1≤getZ ab k∧getZ ab k<N
theorem bndZ_set {N:Nat} {ab:List Int} (h:BndZ N ab) {t:Nat} {z:Int} (hz:-1≤z∧z<N):BndZ N (ab.set t z):=fun k=>by
 by_cases ht:t<ab.length
 · rw[getZ_set ht];split
   · exact hz
   · exact h k
 · rw[List.set_eq_of_length_le (by omega)];exact h k
structure StOk (N:Nat) (s:StS):Prop where
 ul:s.1.length=N
 al:s.2.length=N
 ab:BndZ N s.2
theorem pushK_ok {N:Nat} {frm:Int} {t:Nat} {s:StS} (h:StOk N s) (hf:frm<2*N) (hN:0<N):StOk N (pushK frm t s):=by
 obtain⟨h1,h2,h3⟩:=h
 unfold pushK
 refine⟨?_,?_,?_⟩
 · simp only;split<;>(try split)<;>simp[h1]
 · simp only;split<;>(try split)<;>simp[h2]
 · simp only
   split
   · rename_i hc
     refine bndZ_set ?_ (by omega)
     split
     · exact bndZ_set h3 (by omega)
     · exact h3
   · split
     · exact bndZ_set h3 (by omega)
     · exact h3
theorem src_back {N F:Nat} {ka kb:Nat→Nat} {up us:List Bool} {ab:List Int} {es:Es} (hI:InvG (succS F ka kb us ab) (2*N) (initK F ka kb up N) es) {i:Nat} {t:Nat} {z:Int} (hi:es[i]? = some (t,z)) :
 z=-1∨∃ (j:Nat) (z':Int),0≤z∧es[j]? = some (z.toNat,z')∧j<i∧z<2*(N:Int):=by
 by_cases hl:i<(initK F ka kb up N).length
 · rw[hI.pre i hl] at hi
   exact .inl ((initK_facts N).2.1 _ (List.mem_of_getElem? hi)).1
 · obtain⟨j,r,h1,h2,h3,-⟩:=hI.tail i _ hi (by omega)
   simp only at h3
   have:=hI.lt _ (keyE_mem h2)
   exact .inr ⟨j,r.2,by omega,by rw[h3,Int.toNat_natCast];exact h2,h1,by omega⟩
theorem bk_of {N F:Nat} {ka kb:Nat→Nat} {up us:List Bool} {ab:List Int} {es:Es} (hN:0<N) (hI:InvG (succS F ka kb us ab) (2*N) (initK F ka kb up N) es):BkOk (2*N) es :=
 ⟨hI.nd,hI.lt,fun p hp=>by
   obtain⟨i,hi⟩:=List.mem_iff_getElem?.1 hp
   rcases src_back hI hi with h|⟨j,z',h1,h2,h3,h4⟩
   · omega
   · omega⟩
theorem pk_od1 {t:Nat} {z:Int} {s:StS} (h:t % 2=1) (hz:z=(t:Int) - 1):pushK z t s=(s.1.set (t / 2) true,s.2):=by
 unfold pushK
 rw[if_neg (by omega),if_pos ⟨h,hz⟩,if_neg (by omega),if_neg (by omega)]
theorem pk_od0 {t:Nat} {z:Int} {s:StS} (h:t % 2=1) (hz:z≠(t:Int) - 1):pushK z t s=s:=by
 unfold pushK
 rw[if_neg (by omega),if_neg (by omega),if_neg (by omega),if_neg (by omega)]
theorem pk_ev1 {t:Nat} {z:Int} {s:StS} (h:t % 2=0) (hz:z=(t:Int)+1):pushK z t s=(s.1.set (t / 2) false,s.2):=by
 unfold pushK
 rw[if_pos ⟨h,hz⟩,if_neg (by omega),if_neg (by omega),if_neg (by omega)]
theorem pk_ev2 {t:Nat} {z:Int} {s:StS} (h:t % 2=0) (hz:z=-1):pushK z t s=(s.1,s.2.set (t / 2) (-1)):=by
 unfold pushK
 rw[if_neg (by omega),if_neg (by omega),if_neg (by omega),if_pos ⟨h,hz⟩]
theorem pk_ev3 {t:Nat} {z:Int} {s:StS} (h:t % 2=0) (h0:0≤z) (hz:z≠(t:Int)+1):pushK z t s=(s.1,s.2.set (t / 2) (z / 2)):=by
 unfold pushK
 rw[if_neg (by omega),if_neg (by omega),if_pos ⟨h,h0,hz⟩,if_neg (by omega)]
def outK (es:Es) (k:Nat):List Nat:=(List.range k).filter fun k=>decide (2*k∈keyE es)&&!decide (2*k+1∈keyE es)
theorem outK_succ {es:Es} {k:Nat}:outK es (k+1)=if 2*k∈keyE es∧2*k+1∉keyE es then outK es k++[k] else outK es k:=by
 unfold outK
 rw[List.range_succ,List.filter_append]
 by_cases h1:2*k∈keyE es<;>by_cases h2:2*k+1∈keyE es<;>simp[h1,h2]
theorem outK_len {es:Es} {k:Nat}:(outK es k).length≤k:=by
 have:=List.length_filter_le (fun k=>decide (2*k∈keyE es)&&!decide (2*k+1∈keyE es)) (List.range k)
 simpa [outK] using this
abbrev hcG (x:GrD) (v:Nat) (h:Int) (lab:List Int):Option (List Nat):=hcS (grN x) (firstG x) (kidA x) (kidB x) (coneL x) v h lab
def cutZ (o:Option (List Nat)):List Int:=natI (o.getD [])
set_option maxRecDepth 100000 in
set_option maxHeartbeats 8000000 in
theorem l17Cut_con (x:GrD) (lab:List Int) (v m:Nat) (h:Int) (hx:fitGr 1048576 x) (hg:okGr x) (hok:netOkB x=true) (hF:firstG x≤v) (hv:v<grN x) (hL:LabOk (grN x) (firstG x) (kidA x) (kidB x) m lab) (hvm:v≤m) (hh:1≤h) :
 ConC Try.prog 42 [igr x,ints lab,.d (.int .i64 v),.d (.int .i64 h)] (.tup [ints (cutZ (hcG x v h lab)),.d (.bool (hcG x v h lab).isSome)]):=by
 obtain⟨⟨n1,n2,n3,n4,n5,n6⟩,-,-,-⟩:=netOk_of hok
 obtain⟨hF',hgl,hNi,hno⟩:=ok_sizes hok
 have hN:=grN_eq x
 have hfp:0<firstG x:=by unfold firstG;omega
 have hNS:=netS_of (netF_of hok) hL hF hv hvm hh
 have hlab:=hL.len
 have hup:=up_all (h:=h) (lab:=lab) hok hv
 have hrepB:List.replicate (grN x) [D.bool false]=(List.replicate (grN x) false).map (e1 eBool):=rep_bools
 have hrepI:List.replicate (grN x) [D.int .i64 0]=(List.replicate (grN x) (0:Int)).map (e1 eInt):=by simp[e1,eInt]
 have hcone:=sCone_con x v hx hg hok hv
 rw[mkN_marks] at hcone
 have hcl:=mkN_len (s:=coneL x v)
 rw[coneL_len] at hcl
 have hcm:∀ c∈mkN (coneL x v),c<grN x:=fun c hc=>by have:=getB_len (mkN_mem.1 hc);rwa [coneL_len] at this
 have hR:hcG x v h lab=goS (grN x) (firstG x) (kidA x) (kidB x) (upL (grN x) (coneL x) v h lab) 5 (List.replicate (grN x) false,List.replicate (grN x) 0):=rfl
 generalize hcG x v h lab=R at *
 have hfs:=FlS.start hNS
 have hlf:=hNS.leaf
 have hulen:(upL (grN x) (coneL x) v h lab).length=grN x:=by simp[upL]
 generalize mkN (coneL x v)=cs at *
 generalize upL (grN x) (coneL x) v h lab=up at *
 have hcsl:(natI cs).length=cs.length:=natI_len
 refine con_of (by kernel_rfl) Try.func42 rfl rfl rfl ?_
 simp[enGr]
 refine call_step (hcone) ?_
 simp
 refine call_step (sNodeCount_con x) ?_
 simp[hno]
 refine⟨by omega,?_⟩
 rw[hrepB]
 refine aw_loopU [false,true,true,true,true,false,false,false,false,false,true,true,true,false,false,false,false,false,false,false,false,false,false,false,false,false,false,false,false,false,false,false,false,false,false,false,false,false,false,false,false,false,false,false,false,false,false,false,false,false,false,false,false,false,false,false,false,false,false,false,false,false,false,false,false,false,false,false,false,false,false,false,false,false,false,false,false,false,false,false,false,false,false,false,false,false,false,false,false,false,false,false,false,false,false,false,false,false,false,false,false,false,false,false,false,false,false,false,false,false,false,false,false,false,false,false,false,false,false,false,false,false,false,false,false,false,false,false,false,false,false,false,false,false,false,false,false,false,false,false,false,false,false,false,false,false,false,false,false,false,false,false,false,false,false,false,false,false,false,false,false,false,false,false,false,false,false,false,false,false,false,false,false,false,false,false,false,false] (fun i:Nat=>i≤cs.length) (fun i:Nat=>[(12,.d (.int .i64 i))]) (fun i:Nat=>[(2,.arr 4 true (((cs.take i).foldl (putU (valU lab h v)) (List.replicate (grN x) false)).map (e1 eBool)))]) (fun i:Nat=>cs.length - i) 0 ?_ ?_ ?_
 · exact Nat.zero_le _
 · exact⟨[0,1,2],by simp⟩
 rintro I S μ hI hS hμ i hi
 have hlen:=putU_len (f:=valU lab h v) (cs.take i) (List.replicate (grN x) false)
 rw[List.length_replicate] at hlen
 by_cases hlt:i<cs.length
 · have hc0:cs[i]? = some cs[i]:=List.getElem?_eq_getElem hlt
   have hcN:=hcm _ (List.getElem_mem hlt)
   have hst:(cs.take (i+1)).foldl (putU (valU lab h v)) (List.replicate (grN x) false)=((cs.take i).foldl (putU (valU lab h v)) (List.replicate (grN x) false)).set cs[i] (valU lab h v cs[i]):=by rw[take_snoc' hc0,List.foldl_append];rfl
   generalize cs[i]=c at *
   have hx1:=natI_at hc0
   have wi:IntKind.i64.wrap ((i:Int)+1)=((i+1:Nat):Int):=by rw[wrap_id (by omega) (by omega)];omega
   have hatl:lab[c]? = some (getZ lab c):=by unfold getZ;rw[List.getElem?_eq_getElem (by omega)];rfl
   generalize (cs.take i).foldl (putU (valU lab h v)) (List.replicate (grN x) false)=s at *
   have hats:=getB_at (s:=s) (v:=c) (by omega)
   have hset:=map_setB (s:=s) (v:=c) (b:=valU lab h v c)
   obtain⟨s2,hs2⟩:∃ s2,s.set c (valU lab h v c)=s2:=⟨_,rfl⟩
   rw[hs2] at hset hst
   clear hs2
   by_cases hcv:c=v
   · have hvv:valU lab h v c=true:=by unfold valU;simp[hcv]
     rw[hvv] at hset
     subst hcv
     simp[hx1,decide_eq_true hlt,hcsl]
     refine⟨by kernel_rfl,?_⟩
     simp[hx1,hats,hset,wi]
     exact round_of hI hS hμ (i+1) (by omega) (by omega) ⟨[0,1,2],by simp[hst]⟩
   · have hvv:valU lab h v c=decide (h≤getZ lab c):=by unfold valU;simp[hcv]
     rw[hvv] at hset
     have hbe:((c:Int)==(v:Int))=false:=beq_eq_false_iff_ne.2 (by omega)
     simp[hx1,decide_eq_true hlt,hcsl]
     refine⟨by kernel_rfl,?_⟩
     simp[hx1,hbe,hats,hatl,hset,wi]
     exact round_of hI hS hμ (i+1) (by omega) (by omega) ⟨[0,1,2],by simp[hst]⟩
 obtain rfl:i=cs.length:=by omega
 rw[List.take_length,hup]
 clear hI hS hμ
 simp[hcsl,decide_eq_false hlt,hlt]
 refine call_step (sNodeCount_con x) ?_
 simp[hno]
 refine⟨by omega,?_⟩
 refine call_step (sNodeCount_con x) ?_
 simp[hno]
 refine⟨by omega,?_⟩
 rw[hrepB,hrepI]
 refine aw_loopU [false,false,false,false,true,false,false,false,false,false,false,true,false,true,true,true,true,false,false,false,false,false,false,false,false,false,false,false,false,false,false,false,false,false,false,false,false,false,false,false,false,false,false,false,false,false,false,false,false,false,false,false,false,false,false,false,false,false,false,false,false,false,false,false,false,false,false,false,false,false,false,false,false,false,false,false,false,false,false,false,false,false,false,false,false,false,false,false,false,false,false,false,false,false,false,false,false,false,false,false,false,false,false,false,false,false,false,false,false,false,false,false,false,false,false,false,false,false,false,false,false,false,false,false,false,false,false,false,false,false,false,false,false,false,false,false,false,false,false,false,false,false,false,false,false,false,false,false,false,false,false,false,false,false,false,false,false,false,false,false,false,false,false,false,false,false,false,false,false,false,false,false,false,false,false,false,false,false] (fun i:Nat=>i≤firstG x) (fun i:Nat=>[(16,.d (.int .i64 i))]) (fun i:Nat=>[]) (fun i:Nat=>firstG x - i) 0 ?_ ?_ ?_
 · exact Nat.zero_le _
 · exact⟨[0,1,2,3,4,5],by simp⟩
 rintro I S μ hI hS hμ i hi
 by_cases hlt:i<firstG x
 · have hats:=getB_at (s:=up) (v:=i) (by omega)
   have hbf:=hlf i hlt
   have wi:IntKind.i64.wrap ((i:Int)+1)=((i+1:Nat):Int):=by rw[wrap_id (by omega) (by omega)];omega
   simp[enGr]
   refine call_step (sFirst_con x ⟨n1,n2⟩ n3) ?_
   simp[show (i:Int)<1+x.1+(x.2.1.length:Int) by omega,hats,hbf,wi]
   exact round_of hI hS hμ (i+1) (by omega) (by omega) ⟨[0,1,2,3,4,5],by simp⟩
 obtain rfl:i=firstG x:=by omega
 clear hI hS hμ
 simp[enGr]
 refine call_step (sFirst_con x ⟨n1,n2⟩ n3) ?_
 simp[show ¬ ((firstG x:Nat):Int)<1+x.1+(x.2.1.length:Int) by omega]
 obtain⟨M,hM⟩:∃ M,M=2*grN x:=⟨_,rfl⟩
 refine aw_loopU [false,false,false,false,true,false,false,false,false,false,false,true,false,true,true,true,false,true,false,false,false,false,false,false,false,false,false,false,false,false,false,false,false,false,false,false,false,false,false,false,false,false,false,false,false,false,false,false,false,false,false,false,false,false,false,false,false,false,false,false,false,false,false,false,false,false,false,false,false,false,false,false,false,false,false,false,false,false,false,false,false,false,false,false,false,false,false,false,false,false,false,false,false,false,false,false,false,false,false,false,false,false,false,false,false,false,false,false,false,false,false,false,false,false,false,false,false,false,false,false,false,false,false,false,false,false,false,false,false,false,false,false,false,false,false,false,false,false,false,false,false,false,false,false,false,false,false,false,false,false,false,false,false,false,false,false,false,false,false,false,false,false,false,false,false,false,false,false,false,false,false,false,false,false,false,false,false,false] (fun i:Nat×StS=>i.1≤5∧StOk (grN x) i.2∧FlS (grN x) (firstG x) (kidA x) (kidB x) up (Rch (firstG x) (kidA x) (kidB x) v) i.2.1 i.2.2∧R=goS (grN x) (firstG x) (kidA x) (kidB x) up (5 - i.1) i.2) (fun i:Nat×StS=>[(17,.d (.int .i64 i.1))]) (fun i:Nat×StS=>[(3,.arr 4 true (i.2.1.map (e1 eBool))),(4,.arr 3 true (i.2.2.map (e1 eInt)))]) (fun i:Nat×StS=>5 - i.1) (0,(List.replicate (grN x) false,List.replicate (grN x) 0)) ?_ ?_ ?_
 · refine⟨Nat.zero_le _,⟨by simp,by simp,fun k=>by simp only;rw[getZ_rep];omega⟩,hfs,hR⟩
 · exact⟨[0,1,2,3,4,5],by simp⟩
 clear hR hfs
 rintro I S μ hI hS hμ ⟨fl,us,ab⟩ ⟨hfl,hso,hfs,hR⟩
 simp only at hfl hso hfs hR
 by_cases h5:fl<5
 case neg =>
  obtain rfl:fl=5:=by omega
  have hRn:R=none:=by rw[hR];rfl
  rw[hRn]
  simp[cutZ,natI]
 have hsl:=hso.ul
 have hal:=hso.al
 simp only at hsl hal
 have hsr:=l17Search_con x up us ab hx hok hulen hsl hal hso.ab
 obtain⟨hInv,hNone,hSome⟩:=seekS_facts hNS hfs
 have hgr:=fun u hu=>(push_grows (u:=u) hNS hfs hu).1
 have hge:R=match seekS (grN x) (firstG x) (kidA x) (kidB x) up us ab with
  | (es,none)=>some (outS (grN x) es)
  | (es,some u)=>goS (grN x) (firstG x) (kidA x) (kidB x) up (5 - (fl+1)) (pathS es (2*grN x+1) u (us,ab)):=by
  have e5:5 - fl=(5 - (fl+1))+1:=by omega
  rw[hR,e5];rfl
 change ConC _ _ _ (.tup [ints (backL (2*grN x) (seekS (grN x) (firstG x) (kidA x) (kidB x) up us ab).1),.d (.int .i64 (endZ (seekS (grN x) (firstG x) (kidA x) (kidB x) up us ab).2))]) at hsr
 generalize seekS (grN x) (firstG x) (kidA x) (kidB x) up us ab=Q at *
 obtain⟨es,o⟩:=Q
 simp only at hInv hNone hSome hgr hge hsr
 have hbk:=bk_of (by omega:0<grN x) hInv
 rw[←hM] at hbk hsr hge hgr
 have wfl:IntKind.i64.wrap ((fl:Int)+1)=((fl+1:Nat):Int):=by rw[wrap_id (by omega) (by omega)];omega
 simp[show (fl:Int)≤4 by omega]
 refine call_step (hsr) ?_
 simp
 cases o with
 | none =>
   simp only at hge
   rw[hge]
   simp[endZ]
   refine aw_loopU [false,false,false,false,true,false,false,false,false,false,false,false,false,false,false,true,false,false,true,false,true,false,false,false,false,false,false,false,false,false,false,false,false,false,false,false,false,false,false,false,false,false,false,false,false,false,false,false,false,false,false,false,false,false,false,false,false,false,false,false,false,false,false,false,false,false,false,false,false,false,false,false,false,false,false,false,false,false,false,false,false,false,false,false,false,false,false,false,false,false,false,false,false,false,false,false,false,false,false,false,false,false,false,false,false,false,false,false,false,false,false,false,false,false,false,false,false,false,false,false,false,false,false,false,false,false,false,false,false,false,false,false,false,false,false,false,false,false,false,false,false,false,false,false,false,false,false,false,false,false,false,false,false,false,false,false,false,false,false,false,false,false,false,false,false,false,false,false,false,false,false,false,false,false,false,false,false,false] (fun k:Nat=>k≤grN x) (fun k:Nat=>[(20,.d (.int .i64 k))]) (fun k:Nat=>[(5,.arr 3 true ((natI (outK es k)).map (e1 eInt)))]) (fun k:Nat=>grN x - k) 0 ?_ ?_ ?_
   · exact Nat.zero_le _
   · exact⟨[0,1,2,3,4,5,6],by simp[outK,natI]⟩
   rintro I3 S3 μ3 hI3 hS3 hμ3 k hk
   by_cases hlt:k<grN x
   · have wk:IntKind.i64.wrap ((k:Int)+1)=((k+1:Nat):Int):=by rw[wrap_id (by omega) (by omega)];omega
     obtain⟨t0,ht0⟩:∃ t0,t0=2*k:=⟨_,rfl⟩
     obtain⟨t1,ht1⟩:∃ t1,t1=2*k+1:=⟨_,rfl⟩
     have wt0:IntKind.i64.wrap (2*(k:Int))=(t0:Int):=by rw[wrap_id (by omega) (by omega)];omega
     have wt1:IntKind.i64.wrap ((t0:Int)+1)=(t1:Int):=by rw[wrap_id (by omega) (by omega)];omega
     have ha0:=backL_at (M:=M) (es:=es) (t:=t0) (by omega)
     have ha1:=backL_at (M:=M) (es:=es) (t:=t1) (by omega)
     have hb0:=backL_new hbk (t:=t0) (by omega)
     have hb1:=backL_new hbk (t:=t1) (by omega)
     have hsu:=outK_succ (es:=es) (k:=k)
     rw[←ht1,←ht0] at hsu
     have hol:=outK_len (es:=es) (k:=k)
     have honl:(natI (outK es k)).length=(outK es k).length:=natI_len
     by_cases hm0:t0∈keyE es
     · have hn0:(getZ (backL M es) t0 != -2)=true:=by have:¬ getZ (backL M es) t0=-2:=fun h=>hb0.1 h hm0
                                                      simpa using this
       by_cases hm1:t1∈keyE es
       · have hn1:(getZ (backL M es) t1==-2)=false:=by have:¬ getZ (backL M es) t1=-2:=fun h=>hb1.1 h hm1
                                                       simpa using this
         rw[if_neg (fun h=>h.2 hm1)] at hsu
         simp[enGr]
         refine call_step (sNodeCount_con x) ?_
         simp[hno,show (k:Int)<(grN x:Int) by omega,hlt,decide_eq_true hlt,wt0,wt1,ha0,ha1,hn0,hn1,wk]
         exact round_of hI3 hS3 hμ3 (k+1) (by omega) (by omega) ⟨[0,1,2,3,4,5,6],by simp[hsu]⟩
       · have hn1:(getZ (backL M es) t1==-2)=true:=by simpa using hb1.2 hm1
         rw[if_pos ⟨hm0,hm1⟩] at hsu
         have hsn:natI (outK es (k+1))=natI (outK es k)++[(k:Int)]:=by rw[hsu,natI_snoc]
         simp[enGr]
         refine call_step (sNodeCount_con x) ?_
         simp[hno,show (k:Int)<(grN x:Int) by omega,hlt,decide_eq_true hlt,wt0,wt1,ha0,ha1,hn0,hn1]
         refine app_data vt_el_26 rfl (by simp) rfl (by simp) (by simp) (by first | (simp;done)|(simp;omega)) (by simp[flatP,flatD]) ?_
         simp[wk]
         exact round_of hI3 hS3 hμ3 (k+1) (by omega) (by omega) ⟨[0,1,2,3,4,8,6],by simp[hsn,e1,eInt]⟩
     · have hn0:(getZ (backL M es) t0 != -2)=false:=by have:getZ (backL M es) t0=-2:=hb0.2 hm0
                                                       simpa using this
       rw[if_neg (fun h=>hm0 h.1)] at hsu
       simp[enGr]
       refine call_step (sNodeCount_con x) ?_
       simp[hno,show (k:Int)<(grN x:Int) by omega,hlt,decide_eq_true hlt,wt0,wt1,ha0,ha1,hn0,wk]
       exact round_of hI3 hS3 hμ3 (k+1) (by omega) (by omega) ⟨[0,1,2,3,4,5,6],by simp[hsu]⟩
   · obtain rfl:k=grN x:=by omega
     have he:outK es (grN x)=outS (grN x) es:=rfl
     simp[enGr]
     refine call_step (sNodeCount_con x) ?_
     simp[hno,he,cutZ]
 | some u =>
   simp only at hge
   obtain⟨hu1,hu2⟩:=hSome u rfl
   obtain⟨i0,z0,hi0⟩:=keyE_of hu1
   have hil:=(List.getElem?_eq_some_iff.1 hi0).1
   have hle:=hbk.len
   have hfs9:=hgr u rfl
   generalize hS9:pathS es (M+1) u (us,ab)=S9 at *
   simp[endZ]
   refine aw_loopU [false,false,false,false,true,false,false,false,false,false,false,true,false,true,true,true,false,true,true,true,false,false,false,false,false,false,false,false,false,false,false,false,false,false,false,false,false,false,false,false,false,false,false,false,false,false,false,false,false,false,false,false,false,false,false,false,false,false,false,false,false,false,false,false,false,false,false,false,false,false,false,false,false,false,false,false,false,false,false,false,false,false,false,false,false,false,false,false,false,false,false,false,false,false,false,false,false,false,false,false,false,false,false,false,false,false,false,false,false,false,false,false,false,false,false,false,false,false,false,false,false,false,false,false,false,false,false,false,false,false,false,false,false,false,false,false,false,false,false,false,false,false,false,false,false,false,false,false,false,false,false,false,false,false,false,false,false,false,false,false,false,false,false,false,false,false,false,false,false,false,false,false,false,false,false,false,false,false] (fun i:Nat×Int×StS=>(i.2.1=-1∨∃ (j:Nat) (z:Int),0≤i.2.1∧es[j]? = some (i.2.1.toNat,z)∧j+1≤i.1)∧StOk (grN x) i.2.2∧pathS es i.1 i.2.1 i.2.2=S9) (fun i:Nat×Int×StS=>[(19,.d (.int .i64 i.2.1))]) (fun i:Nat×Int×StS=>[(3,.arr 4 true (i.2.2.1.map (e1 eBool))),(4,.arr 3 true (i.2.2.2.map (e1 eInt)))]) (fun i:Nat×Int×StS=>i.1) (M+1,(u:Int),(us,ab)) ?_ ?_ ?_
   · exact⟨.inr ⟨i0,z0,by simp only;omega,by simpa using hi0,by simp only;omega⟩,hso,hS9⟩
   · exact⟨[0,1,2,3,4,5,6],by simp⟩
   clear hso hfs hR hsr hgr hS9 hNone hSome
   rintro I4 S4 μ4 hI4 hS4 hμ4 ⟨f,at_,us,ab⟩ ⟨hat,hso,hpath⟩
   simp only at hat hso hpath
   have hsl:=hso.ul
   have hal:=hso.al
   simp only at hsl hal
   by_cases hneg:at_=-1
   · subst hneg
     rw[pathS_end] at hpath
     simp[show ¬ (0:Int)≤-1 by omega,wfl]
     exact round_of hI hS hμ (fl+1,(us,ab)) ⟨by simp only;omega,hso,by rw[←hpath] at hfs9;exact hfs9,by rw[hge,←hpath]⟩ (by simp;omega) ⟨[0,1,2,3,4,5],by simp⟩
   obtain⟨j,z,h0,hj,hjf⟩:∃ (j:Nat) (z:Int),0≤at_∧es[j]? = some (at_.toNat,z)∧j+1≤f:=by
    rcases hat with h|h
    · exact absurd h hneg
    · exact h
   obtain⟨t,rfl⟩:∃ t:Nat,at_=t:=⟨at_.toNat,by omega⟩
   rw[Int.toNat_natCast] at hj
   have htM:t<M:=hbk.lt t (keyE_mem hj)
   have hsrc:=srcE_at hbk.nd hj
   simp only at hsrc
   obtain⟨f,rfl⟩:∃ f',f=f'+1:=⟨f - 1,by omega⟩
   rw[pathS_step hsrc] at hpath
   have hz:=src_back hInv hj
   have hzM:z<2*(grN x:Int):=by rcases hz with h|⟨_,_,_,_,_,h⟩<;>omega
   have hnext:z=-1∨∃ (j:Nat) (z':Int),0≤z∧es[j]? = some (z.toNat,z')∧j+1≤f:=by
    rcases hz with h|⟨j',z',a1,a2,a3,a4⟩
    · exact .inl h
    · exact .inr ⟨j',z',a1,a2,by omega⟩
   have hso2:=pushK_ok (frm:=z) (t:=t) hso hzM (by omega)
   have hbt:(backL M es)[t]? = some z:=by rw[backL_at htM,backL_get hbk htM,hsrc];rfl
   obtain⟨k,hk⟩:∃ k,k=t / 2:=⟨_,rfl⟩
   have wk:IntKind.i64.wrap ((t:Int).tdiv 2)=(k:Int):=by rw[Int.tdiv_eq_ediv_of_nonneg (by omega),wrap_id (by omega) (by omega)];omega
   have wk2:IntKind.i64.wrap ((t:Int) / 2)=(k:Int):=by rw[wrap_id (by omega) (by omega)];omega
   have wm:(t:Int).tmod 2=((t % 2:Nat):Int):=by rw[Int.tmod_eq_emod_of_nonneg (by omega)];omega
   obtain⟨tm,htm⟩:∃ tm:Int,tm=(t:Int) - 1:=⟨_,rfl⟩
   obtain⟨tp,htp⟩:∃ tp:Int,tp=(t:Int)+1:=⟨_,rfl⟩
   have wtm:IntKind.i64.wrap ((t:Int) - 1)=tm:=by rw[wrap_id (by omega) (by omega)];omega
   have wtp:IntKind.i64.wrap ((t:Int)+1)=tp:=by rw[wrap_id (by omega) (by omega)];omega
   have hats:=getB_at (s:=us) (v:=k) (by omega)
   have hata:ab[k]? = some (getZ ab k):=by unfold getZ;rw[List.getElem?_eq_getElem (by omega)];rfl
   have h0t:(0:Int)≤(t:Int):=by omega
   by_cases hodd:t % 2=1
   · have hm1:((t:Int).tmod 2==1)=true:=by rw[wm,hodd];rfl
     have hm0:((t:Int).tmod 2==0)=false:=by rw[wm,hodd];rfl
     by_cases hzt:z=tm
     · have hb:(z==tm)=true:=beq_iff_eq.2 hzt
       have hpk:=pk_od1 (s:=(us,ab)) hodd (by omega:z=(t:Int) - 1)
       simp only at hpk
       rw[←hk] at hpk
       have hset:=map_setB (s:=us) (v:=k) (b:=true)
       obtain⟨us2,hu2⟩:∃ us2,us.set k true=us2:=⟨_,rfl⟩
       rw[hu2] at hset hpk
       simp[h0t,hbt,wk,wk2,hm1,hm0,wtm,wtp,hb,hats,hset]
       exact round_of hI4 hS4 hμ4 (f,z,pushK z t (us,ab)) ⟨hnext,hso2,hpath⟩ (by simp) ⟨[0,1,2,3,4,5,6],by simp[hpk]⟩
     · have hb:(z==tm)=false:=beq_eq_false_iff_ne.2 hzt
       have hpk:=pk_od0 (s:=(us,ab)) hodd (by omega:z≠(t:Int) - 1)
       simp[h0t,hbt,wk,wk2,hm1,hm0,wtm,wtp,hb]
       exact round_of hI4 hS4 hμ4 (f,z,pushK z t (us,ab)) ⟨hnext,hso2,hpath⟩ (by simp) ⟨[0,1,2,3,4,5,6],by simp[hpk]⟩
   · have hev:t % 2=0:=by omega
     have hm1:((t:Int).tmod 2==1)=false:=by rw[wm,hev];rfl
     have hm0:((t:Int).tmod 2==0)=true:=by rw[wm,hev];rfl
     by_cases hzp:z=tp
     · have hb1:(z==tp)=true:=beq_iff_eq.2 hzp
       have hb1n:(z != tp)=false:=by simp[hzp]
       have hb2:(z==-1)=false:=beq_eq_false_iff_ne.2 (by omega)
       have hb3:0≤z:=by omega
       have hpk:=pk_ev1 (s:=(us,ab)) hev (by omega:z=(t:Int)+1)
       simp only at hpk
       rw[←hk] at hpk
       have hset:=map_setB (s:=us) (v:=k) (b:=false)
       obtain⟨us2,hu2⟩:∃ us2,us.set k false=us2:=⟨_,rfl⟩
       rw[hu2] at hset hpk
       simp[h0t,hbt,wk,wk2,hm1,hm0,wtm,wtp,hb1,hb1n,hb2,hb3,decide_eq_true hb3,hats,hset]
       exact round_of hI4 hS4 hμ4 (f,z,pushK z t (us,ab)) ⟨hnext,hso2,hpath⟩ (by simp) ⟨[0,1,2,3,4,5,6],by simp[hpk]⟩
     · have hb1:(z==tp)=false:=beq_eq_false_iff_ne.2 hzp
       have hb1n:(z != tp)=true:=by simp[hzp]
       by_cases hz1:z=-1
       · have hb2:(z==-1)=true:=beq_iff_eq.2 hz1
         have hb3:¬ 0≤z:=by omega
         have hpk:=pk_ev2 (s:=(us,ab)) hev hz1
         simp only at hpk
         rw[←hk] at hpk
         have hset:=setI (lv:=ab) (i:=k) (v:=-1)
         obtain⟨ab2,hu2⟩:∃ ab2,ab.set k (-1)=ab2:=⟨_,rfl⟩
         rw[hu2] at hset hpk
         simp[h0t,hbt,wk,wk2,hm1,hm0,wtm,wtp,hb1,hb1n,hb2,hb3,decide_eq_false hb3,hata,hset]
         exact round_of hI4 hS4 hμ4 (f,z,pushK z t (us,ab)) ⟨hnext,hso2,hpath⟩ (by simp) ⟨[0,1,2,3,4,5,6],by simp[hpk]⟩
       · have hb2:(z==-1)=false:=beq_eq_false_iff_ne.2 hz1
         have hb3:0≤z:=by rcases hz with h|⟨_,_,h,_⟩<;>omega
         have hpk:=pk_ev3 (s:=(us,ab)) hev hb3 (by omega:z≠(t:Int)+1)
         simp only at hpk
         rw[←hk] at hpk
         obtain⟨zh,hzh⟩:∃ zh,zh=z / 2:=⟨_,rfl⟩
         have wz:IntKind.i64.wrap (z.tdiv 2)=zh:=by rw[Int.tdiv_eq_ediv_of_nonneg hb3,wrap_id (by omega) (by omega)];omega
         rw[←hzh] at hpk
         have hset:=setI (lv:=ab) (i:=k) (v:=zh)
         obtain⟨ab2,hu2⟩:∃ ab2,ab.set k zh=ab2:=⟨_,rfl⟩
         rw[hu2] at hset hpk
         simp[h0t,hbt,wk,wk2,hm1,hm0,wtm,wtp,hb1,hb1n,hb2,hb3,decide_eq_true hb3,wz,hata,hset]
         exact round_of hI4 hS4 hμ4 (f,z,pushK z t (us,ab)) ⟨hnext,hso2,hpath⟩ (by simp) ⟨[0,1,2,3,4,5,6],by simp[hpk]⟩
end Go.Proofs.Ytakohcpfjkcfdaa
