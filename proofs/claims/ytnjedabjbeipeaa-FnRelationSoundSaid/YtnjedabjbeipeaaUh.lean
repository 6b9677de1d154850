/-
  The links of forward retiming, by an abstract walk: the reference.
  Conditions: those typed in each theorem.
-/
import Derived.Test.YtnjedabjbeipeaaUg
import Derived.Test.YtnjedabjbeipeaaKg
namespace Go.Proofs.Ytnjedabjbeipeaa
open Go.RowKit Go.ChangeShapes Go.WideShapes
set_option linter.unusedVariables false
set_option linter.unusedSimpArgs false
attribute [local simp ↓] condG_true condG_false condB_true condB_false
attribute [local simp] AWp_skip AWp_region_t AWp_region_d AWp_region_f still_mk AWp_seq AWp_cond condV_bool condB AWp_block AWp_exit AWp_ret
attribute [local simp] AOps_nil AOp_move AOp_assign AOp_pick AOp_binOp AOp_unOp AOp_convert AOp_len AOp_max AOp_min AOp_indexAddr AOp_load
attribute [local simp] AOp_fieldAddr AOp_field AOp_extract AOp_nilCheck AOp_build AOp_alloc AOp_box AOp_call AOp_store AOp_append AOp_buildSlice nextB_some
attribute [local simp] nextB_none adoptO adoptC AOp_makeSlice AOp_slice AOp_makeFunc AOp_guard guardD_some guardG_bool guardG_undef nextO_some nextS_some
attribute [local simp] nextZ_some nextL_some nextM_some nextT_some sliceO sliceL sliceT partO partV boundV funcO pickO
attribute [local simp] convO lenO maxO minO idxO extO nilO buildO litO litC makeO chunks
attribute [local simp] fillV placeOf thenA inBlockA St.get St.put St.eval ofCell evalT abin_add abin_sub abin_mul
attribute [local simp] abin_quo abin_rem abin_and abin_or abin_xor abin_andNot abin_shl abin_shr abin_shlu abin_eql abin_eqp abin_neq
attribute [local simp] abin_lss abin_leq abin_gtr abin_geq abin_eqlb abin_neqb aun pickV lenV intOf? indexV takeD
attribute [local simp] takeV loadV fieldAddrV fieldV ofX presD presDs pres presAll cellsV V.cell storeV
attribute [local simp] freezeC putAt kill takeC plains plainV scalarV nat_neg keepT sets eSl e1
attribute [local simp] e2 e3 e4 eInt eBool abinS_d abinS_agg abinS nilEq abin_eqb AOp_makeMap AOp_lookup
attribute [local simp] AOp_mapUpdate lookG_some updG_some mapV kyOf vlOf lookV vlV buildA afterCall inst inst1
attribute [local simp] inst1s instD instDs RetA resVs resV gives give1 give1s Le isPin leSlots
attribute [local simp] leS leTmps leV le0 le0s ren ren0 renS ren0s frame enterT afterT_some
attribute [local simp] afterC_some lives Slot.live arrsOk viewV view0 renT rens renSs setAll List.range'_succ RetT
attribute [local simp] RetW joinV leT AOpsE_nil AOpsE_cons AOpsT_nil AOpsT_cons isCallT isFnO callOf callVC_fn condC_true
attribute [local simp] condC_false beginT_mk beginX_mk AOpsX_zero thenT_mk pickE pickT isT loose namesOf namesV names1
attribute [local simp] names0 stableN sameAt Op.operands Call.operands
theorem keptK_last {m:List Bool} {q:Nat} {n:Nat}:∀ y∈(keptK m q (n+1)).dropLast,y<(n:Int):=fun y hy=>by
 unfold keptK at hy
 split at hy
 · rw[List.dropLast_concat] at hy
   have:=keptK_in n y hy;omega
 · exact (keptK_in n y (List.dropLast_subset _ hy)).2
theorem keptG_last {x:GrD} {k:Int} (h:fwdOkB x k=true):∀ y∈(keptG (fwdG x k)).dropLast,y<(x.2.1.length:Int):=fun y hy=>by
 unfold keptG at hy
 split at hy
 · have hl:(fwdG x k).2.1.length=x.2.1.length+1:=by unfold fwdG;simp
   rw[hl] at hy
   exact keptK_last y hy
 · simp at hy
theorem fwdLk_last {x:GrD} {k:Int} {is:List Int} {y:Int} (h:∀ z∈is,z<(x.2.1.length:Int)):(is++[y]).map (lkOf x k)=lkP is++[lkOf x k y]:=by
 rw[List.map_append,List.map_singleton]
 congr 1
 unfold lkP
 apply List.map_congr_left
 intro z hz
 unfold lkOf
 rw[if_pos (h z hz)]
set_option maxRecDepth 100000 in
set_option maxHeartbeats 2000000 in
theorem sForwardLinks_con (x:GrD) (k:Int) (hx:fitGr 1048576 x) (hg:okGr x):ConC Try.prog 95 [igr x,.d (.int .i64 k)] (.tup [ilk (fwdLk x k),.d (.bool (fwdOkB x k))]):=by
 have kf:=sForward_conT x k hx hg
 have hB:fwdLk x k=if fwdOkB x k=true then (keptG (fwdG x k)).map (lkOf x k) else []:=rfl
 refine con_ofD (by kernel_rfl) Try.func95 rfl rfl rfl ?_
 simp[enGr]
 refine callT_step (kf) [] [] (by simp) ?_
 simp
 cases hO:fwdOkB x k with
 | false =>
   rw[hO,if_neg (by simp)] at hB
   simp[hO,hB]
 | true =>
 rw[hO,if_pos rfl] at hB
 have kk:=l25Kept_con (fwdG x k) (fwdG_fit hx hO) (okGr_netOk (fwdG_ok hO))
 have hl:=keptG_len (x:=fwdG x k)
 have hin:=keptG_in (x:=fwdG x k)
 have hlast:=keptG_last hO
 have hsl:(fwdG x k).2.1.length=x.2.1.length+1:=by unfold fwdG;simp
 rw[hsl] at hin
 obtain⟨hok,hk,c1,c2,c3⟩:=frontB_of (fwdOk_of hO).1
 obtain⟨kn,rfl⟩:∃ kn:Nat,k=kn:=⟨k.toNat,by omega⟩
 have ha2:=(andK_at hk).1
 rw[Int.toNat_natCast] at ha2
 obtain⟨⟨n1,n2,n3,n4,n5,n6⟩,-,-,-⟩:=netOk_of hok
 obtain⟨hr1,hr2⟩:=andK_rng hok hk
 have kfa:=sFlop_con x (andK x (kn:Int)).1 ⟨n1,n2⟩ n3 (by omega)
 have kfb:=sFlop_con x (andK x (kn:Int)).2 ⟨n1,n2⟩ n3 (by omega)
 rw[if_pos rfl]
 generalize fwdG x (kn:Int)=g at *
 rcases List.eq_nil_or_concat (keptG g) with hn|⟨is,y,hn⟩
 · rw[hn] at kk hB
   simp[hB,ha2,enAnd]
   refine call_step (kk) ?_
   simp[enGr,lkP]
   refine drawD_of 18 (by kernel_rfl) ?_
   simp
 rw[List.concat_eq_append] at hn
 rw[hn] at kk hB hin hlast hl
 rw[List.dropLast_concat] at hlast
 rw[fwdLk_last hlast] at hB
 have hlk:lkP (is++[y])=lkP is++[([y],2)]:=lkP_snoc
 rw[hlk] at kk
 have hy:=hin y (by simp)
 have hml:(lkP is).length=is.length:=by simp[lkP]
 have hlen:is.length≤11:=by simp at hl;omega
 have w1:IntKind.i64.wrap ((is.length:Int)+1 - 1)=is.length:=by rw[wrap_id (by omega) (by omega)];omega
 have w2:IntKind.i64.wrap (is.length:Int)=is.length:=wrap_id (by omega) (by omega)
 simp[hB]
 refine call_step (kk) ?_
 simp[enGr]
 obtain⟨ls,hls⟩:∃ ls,(lkP is).map enLink=ls:=⟨_,rfl⟩
 have hll:ls.length=is.length:=by rw[←hls];simp[hml]
 rw[hls]
 have hat:(ls++[enLink ([y],2)])[is.length]? = some (enLink ([y],2)):=by rw[←hll];simp
 have hset:∀ e:List D,(ls++[enLink ([y],2)]).set is.length e=ls++[e]:=fun e=>by rw[←hll];simp
 have hL:(enLink ([y],2)).length=2:=rfl
 by_cases hyn:y<(x.2.1.length:Int)
 · have hlk1:lkOf x (kn:Int) y=([y],2):=by unfold lkOf;rw[if_pos hyn]
   have hne:(y==(x.2.1.length:Int))=false:=by simpa using (by omega:¬ y=(x.2.1.length:Int))
   rw[hlk1]
   refine drawD_of 18 (by kernel_rfl) ?_
   simp[hll,w1,w2,hat,hL,enLink,hne,show ¬ y=(x.2.1.length:Int) by omega]
   exact hls.symm
 · have hlk2:lkOf x (kn:Int) y=([flopL x (andK x (kn:Int)).1,flopL x (andK x (kn:Int)).2],fwdMask (andK x (kn:Int))):=by unfold lkOf;rw[if_neg hyn]
   obtain rfl:y=(x.2.1.length:Int):=by omega
   have hne:((x.2.1.length:Int)==(x.2.1.length:Int))=true:=by simp
   rw[hlk2]
   have hmask:shl64 1 (3 - (andK x (kn:Int)).1 % 2 - 2*((andK x (kn:Int)).2 % 2))=fwdMask (andK x (kn:Int)):=by
    unfold fwdMask
    have h1:(andK x (kn:Int)).1 % 2=0∨(andK x (kn:Int)).1 % 2=1:=by omega
    have h2:(andK x (kn:Int)).2 % 2=0∨(andK x (kn:Int)).2 % 2=1:=by omega
    rcases h1 with h1|h1<;>rcases h2 with h2|h2<;>rw[h1,h2]<;>decide
   have v1:IntKind.i64.wrap (3 - (andK x (kn:Int)).1 % 2)=3 - (andK x (kn:Int)).1 % 2:=wrap_id (by omega) (by omega)
   have v2:IntKind.i64.wrap (2*((andK x (kn:Int)).2 % 2))=2*((andK x (kn:Int)).2 % 2):=wrap_id (by omega) (by omega)
   have v3:IntKind.i64.wrap (3 - (andK x (kn:Int)).1 % 2 - 2*((andK x (kn:Int)).2 % 2))=3 - (andK x (kn:Int)).1 % 2 - 2*((andK x (kn:Int)).2 % 2):=wrap_id (by omega) (by omega)
   have v0:0≤3 - (andK x (kn:Int)).1 % 2 - 2*((andK x (kn:Int)).2 % 2):=by omega
   have m1:=and64_one (andK x (kn:Int)).1
   have m2:=and64_one (andK x (kn:Int)).2
   generalize fwdMask (andK x (kn:Int))=mk at *
   generalize flopL x (andK x (kn:Int)).1=fa at *
   generalize flopL x (andK x (kn:Int)).2=fb at *
   generalize andK x (kn:Int)=ak at *
   have hLa:(enAnd ak).length=2:=rfl
   have v4:2*(ak.2 % 2)≤3 - ak.1 % 2:=by omega
   refine drawD_of 18 (by kernel_rfl) ?_
   simp[hll,w1,w2,hat,hL,enLink,hne,ha2,hLa,enAnd,show ¬ (kn:Int)<0 by omega]
   refine drawD_of 20 (by kernel_rfl) ?_
   simp
   refine call_step (kfa) ?_
   simp[enGr]
   refine call_step (kfb) ?_
   simp[enGr,m1,m2,v1,v2,v3,v0,v4,hmask,hll,w1,w2,hat,hL,enLink,hset]
   exact hls.symm
end Go.Proofs.Ytnjedabjbeipeaa
