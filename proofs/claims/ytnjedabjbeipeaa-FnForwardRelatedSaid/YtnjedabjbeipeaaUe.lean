/-
  The links of forward retiming, by abstract walks: the program's side.
  Conditions: those typed in each theorem.
-/
import Derived.Test.YtnjedabjbeipeaaUc
namespace Go.Proofs.Ytnjedabjbeipeaa
open Go.RowKit Go.ChangeShapes Go.WideShapes
set_option linter.unusedVariables false
set_option linter.unusedSimpArgs false
attribute [local simp ↓] condG_true condG_false condB_true condB_false
attribute [local simp] AWp_skip AWp_region_t AWp_region_d AWp_region_f still_mk AWp_seq AWp_cond condV_bool condB AWp_block AWp_exit AWp_ret
attribute [local simp] AOps_nil AOp_move AOp_assign AOp_pick AOp_binOp AOp_unOp AOp_convert AOp_len AOp_max AOp_min AOp_indexAddr AOp_load
attribute [local simp] AOp_fieldAddr AOp_field AOp_extract AOp_nilCheck AOp_build AOp_alloc AOp_box AOp_call AOp_store AOp_append AOp_buildSlice nextB_some
attribute [local simp] nextB_none adoptO adoptC AOp_makeSlice AOp_slice AOp_makeFunc AOp_guard guardD_some guardG_bool guardG_undef nextO_some nextS_some
attribute [local simp] nextZ_some nextL_some nextM_some nextT_some sliceO sliceL sliceT partO partV boundV funcO pickO
attribute [local simp] convO lenO maxO minO idxO extO nilO buildO litO litC makeO chunks
attribute [local simp] fillV placeOf thenA inBlockA St.get St.put St.eval ofCell evalT abin_add abin_sub abin_mul
attribute [local simp] abin_quo abin_rem abin_and abin_or abin_xor abin_andNot abin_shl abin_shr abin_shlu abin_eql abin_eqp abin_neq
attribute [local simp] abin_lss abin_leq abin_gtr abin_geq abin_eqlb abin_neqb aun pickV lenV intOf? indexV takeD
attribute [local simp] takeV loadV fieldAddrV fieldV ofX presD presDs pres presAll cellsV V.cell storeV
attribute [local simp] freezeC putAt kill takeC plains plainV scalarV nat_neg keepT sets eSl e1
attribute [local simp] e2 e3 e4 eInt eBool abinS_d abinS_agg abinS nilEq abin_eqb AOp_makeMap AOp_lookup
attribute [local simp] AOp_mapUpdate lookG_some updG_some mapV kyOf vlOf lookV vlV buildA afterCall inst inst1
attribute [local simp] inst1s instD instDs RetA resVs resV gives give1 give1s Le isPin leSlots
attribute [local simp] leS leTmps leV le0 le0s ren ren0 renS ren0s frame enterT afterT_some
attribute [local simp] afterC_some lives Slot.live arrsOk viewV view0 renT rens renSs setAll List.range'_succ RetT
attribute [local simp] RetW joinV leT AOpsE_nil AOpsE_cons AOpsT_nil AOpsT_cons isCallT isFnO callOf callVC_fn condC_true
attribute [local simp] condC_false beginT_mk beginX_mk AOpsX_zero thenT_mk pickE pickT isT loose namesOf namesV names1
attribute [local simp] names0 stableN sameAt Op.operands Call.operands
def fwdT (a:AndD):Int:=3 - a.1 % 2 - 2*(a.2 % 2)
def tabM (t:Int) (i:Nat):Int:=if t<i then 2 ^ t.toNat else 0
theorem fwdT_rng (a:AndD):0≤fwdT a∧fwdT a≤3:=by unfold fwdT;omega
theorem tabM_all (a:AndD):tabM (fwdT a) 4=fwdMask a:=by
 unfold tabM fwdMask fwdT
 have h1:a.1 % 2=0∨a.1 % 2=1:=by omega
 have h2:a.2 % 2=0∨a.2 % 2=1:=by omega
 rcases h1 with h1|h1<;>rcases h2 with h2|h2<;>rw[h1,h2]<;>decide
theorem fwdClo_conT (a:AndD) (i:Nat) (hi:i<4):ConT Try.prog 35 [.d (.int .i64 i),.ptr 0 0] [.var 60 [.d (.int .i64 a.1),.d (.int .i64 a.2)]] (.d (.bool (decide ((i:Int)=fwdT a)))) [.var 60 [.d (.int .i64 a.1),.d (.int .i64 a.2)]]:=by
 have hT:fwdT a=3 - a.1 % 2 - 2*(a.2 % 2):=rfl
 obtain⟨e0,m0⟩:∃ e0,and64 (i:Int) 1=e0:=⟨_,rfl⟩
 obtain⟨e2,hs⟩:∃ e2,shr64 (i:Int) 1=e2:=⟨_,rfl⟩
 have he0:e0=(i:Int) % 2:=by rw[←m0,and64_one]
 have he2:e2=(i:Int) / 2:=by
  rw[←hs]
  have:i=0∨i=1∨i=2∨i=3:=by omega
  rcases this with rfl|rfl|rfl|rfl<;>decide
 have m1:and64 a.1 1=a.1 % 2:=and64_one _
 have m2:and64 a.2 1=a.2 % 2:=and64_one _
 have h1:a.1 % 2=0∨a.1 % 2=1:=by omega
 have h2:a.2 % 2=0∨a.2 % 2=1:=by omega
 have x1:(xor64 e0 (a.1 % 2)==1)=decide (e0+a.1 % 2=1):=by
  have:e0=0∨e0=1:=by omega
  rcases this with h|h<;>rcases h1 with g|g<;>rw[h,g]<;>decide
 have x2:(xor64 e2 (a.2 % 2)==1)=decide (e2+a.2 % 2=1):=by
  have:e2=0∨e2=1:=by omega
  rcases this with h|h<;>rcases h2 with g|g<;>rw[h,g]<;>decide
 generalize fwdT a=T at *
 generalize hP:a.1 % 2=p at *
 generalize hQ:a.2 % 2=q at *
 generalize hv1:xor64 e0 p=v1 at *
 generalize hv2:xor64 e2 q=v2 at *
 have hR:decide ((i:Int)=T)=((v1==1)&&(v2==1)):=by
  rw[x1,x2,←Bool.decide_and]
  exact decide_eq_decide.2 (by omega)
 rw[hR]
 clear hR x1 x2
 refine conT_of (by kernel_rfl) Try.func35 rfl rfl rfl (by simp[laters,Later]) (by simp[lives,Slot.live]) ?_
 cases hb1:(v1==1)<;>cases hb2:(v2==1)
 all_goals
  simp[m0,m1,m2,hs,hv1,hv2,hb1,hb2]
  exact⟨[0],by simp⟩
set_option maxRecDepth 100000 in
theorem fwdTab_conT (a:AndD):ConT Try.prog 34 [.d (.int .i64 2),.fn 35 [.ptr 0 0]] [.var 60 [.d (.int .i64 a.1),.d (.int .i64 a.2)]] (.agg [.d (.int .i64 2),.d (.int .i64 (fwdMask a))]) [.var 60 [.d (.int .i64 a.1),.d (.int .i64 a.2)]]:=by
 have kc:=fun i hi=>fwdClo_conT a i hi
 rw[←tabM_all]
 obtain⟨t0,t3⟩:=fwdT_rng a
 generalize fwdT a=T at *
 have hsh:shl64 1 (2:Int)=4:=by decide
 have hu:IntKind.u64.wrap 2=2:=by decide
 refine conT_of (by kernel_rfl) Try.func34 rfl rfl rfl (by simp[laters,Later]) (by simp[lives,Slot.live]) ?_
 simp
 refine aw_loopU [true,true,false,false,true,true,true,false,false,false,false,false,false,false,false,false,false,false,false,false,false,false,false,false,false,false,false] (fun i:Nat=>i≤4) (fun i:Nat=>[(6,.d (.int .i64 i))]) (fun i:Nat=>[(2,.var 62 [.d (.int .i64 2),.d (.int .i64 (tabM T i))])]) (fun i:Nat=>4 - i) 0 ?_ ?_ ?_
 · exact Nat.zero_le _
 · exact⟨[0,1,2],by simp[tabM];omega⟩
 rintro I S μ hI hS hμ i hi
 by_cases hlt:i<4
 · have k:=kc i hlt
   have w1:IntKind.i64.wrap ((i:Int)+1)=(i:Int)+1:=wrap_id (by omega) (by omega)
   have w2:IntKind.u64.wrap (i:Int)=i:=by
    have:i=0∨i=1∨i=2∨i=3:=by omega
    rcases this with rfl|rfl|rfl|rfl<;>decide
   simp[hsh,hu,show (i:Int)<4 by omega,AOp_callv,callV_fn]
   by_cases hT:(i:Int)=T
   · have h0:tabM T i=0:=by unfold tabM;rw[if_neg (by omega)]
     have h1:or64 (tabM T i) (shl64 1 (i:Int))=tabM T (i+1):=by
      rw[h0]
      have hi2:tabM T (i+1)=2 ^ i:=by unfold tabM;rw[if_pos (by omega),←hT];rfl
      rw[hi2]
      have:i=0∨i=1∨i=2∨i=3:=by omega
      rcases this with rfl|rfl|rfl|rfl<;>decide
     rw[decide_eq_true hT] at k
     refine callT_step (k) [] [0] (by simp) ?_
     simp[w2,h1,w1]
     exact round_of hI hS hμ (i+1) (by omega) (by omega) ⟨[0,1,2],by simp[h1]⟩
   · have h1:tabM T (i+1)=tabM T i:=by
      unfold tabM
      by_cases h:T<i
      · rw[if_pos (by omega),if_pos h]
      · rw[if_neg (by omega),if_neg h]
     rw[decide_eq_false hT] at k
     refine callT_step (k) [] [0] (by simp) ?_
     simp[w1]
     exact round_of hI hS hμ (i+1) (by omega) (by omega) ⟨[0,1,2],by simp[h1]⟩
 · obtain rfl:i=4:=by omega
   simp[hsh,hu,show ¬ ((4:Nat):Int)<4 by omega]
   exact⟨[0],by simp⟩
theorem forward_conT (x:GrD) (k:Int) (hx:fitGr 1048576 x):ConT Try.prog 30 [vgr x,.d (.int .i64 k)] [] (.tup [vgr (if fwdOkB x k=true then fwdG x k else x),.d (.bool (fwdOkB x k))]) []:=by
 cases h:frontB x k with
 | false=>exact forward_no x k hx h
 | true =>
   obtain⟨-,hk,-⟩:=frontB_of h
   obtain⟨kn,rfl⟩:∃ kn:Nat,k=kn:=⟨k.toNat,by omega⟩
   exact forward_yes x kn hx h
theorem fwdG_fit {x:GrD} {k:Int} (hx:fitGr 1048576 x) (h:fwdOkB x k=true):fitGr 1048576 (fwdG x k):=by
 obtain⟨⟨n1,n2,n3,n4,n5,n6⟩,-,-,-⟩:=netOk_of (fwdG_ok h)
 refine⟨by omega,fun s hs=>?_,by omega,by omega⟩
 rcases List.mem_append.1 hs with hs|hs
 · obtain⟨t,ht,rfl⟩:=List.mem_map.1 hs
   have:=hx.2.1 t ht
   simpa [mapSeq] using this
 · rw[List.mem_singleton.1 hs];simp
theorem keptG_in {x:GrD}:∀ y∈keptG x,0≤y∧y<x.2.1.length:=fun y hy=>by
 unfold keptG at hy
 split at hy
 · exact keptK_in _ y hy
 · simp at hy
set_option maxRecDepth 100000 in
set_option maxHeartbeats 2000000 in
theorem iForwardLinks_con (x:GrD) (k:Int) (hx:fitGr 1048576 x):ConC Try.prog 9 [igr x,.d (.int .i64 k)] (.tup [ilk (fwdLk x k),.d (.bool (fwdOkB x k))]):=by
 have kf:=forward_conT x k hx
 have hB:fwdLk x k=if fwdOkB x k=true then (keptG (fwdG x k)).map (lkOf x k) else []:=rfl
 refine con_ofD (by kernel_rfl) Try.func9 rfl rfl rfl ?_
 simp[enGr]
 refine callT_step (kf) [] [] (by simp) ?_
 simp
 cases hO:fwdOkB x k with
 | false =>
   rw[hO,if_neg (by simp)] at hB
   simp[hO,hB]
 | true =>
 rw[hO,if_pos rfl] at hB
 have hfit:=fwdG_fit hx hO
 have kk:=iKept_con (fwdG x k) hfit
 have hl:=keptG_len (x:=fwdG x k)
 have hin:=keptG_in (x:=fwdG x k)
 obtain⟨hok,hk,c1,c2,c3⟩:=frontB_of (fwdOk_of hO).1
 obtain⟨kn,hkn⟩:∃ kn:Nat,k=kn:=⟨k.toNat,by omega⟩
 have ha2:=(andK_at hk).1
 rw[hkn,Int.toNat_natCast] at ha2
 rw[if_pos rfl]
 generalize fwdG x k=g at *
 generalize keptG g=is at *
 simp[ha2,hkn,enAnd]
 refine call_step (kk) ?_
 simp[enGr]
 obtain⟨⟨n1,n2,n3,n4,n5,n6⟩,-,-,-⟩:=netOk_of hok
 obtain⟨hr1,hr2⟩:=andK_rng hok hk
 rw[hkn] at hr1 hr2 hB c1 c2
 have kfa:=flopOf_con x (andK x (kn:Int)).1 ⟨n1,n2⟩ n3 (by omega)
 have kfb:=flopOf_con x (andK x (kn:Int)).2 ⟨n1,n2⟩ n3 (by omega)
 have kt:=fwdTab_conT (andK x (kn:Int))
 have hlk1:∀ y:Int,y<x.2.1.length→lkOf x (kn:Int) y=([y],2):=fun y h=>by unfold lkOf;rw[if_pos h]
 have hlk2:∀ y:Int,¬ y<x.2.1.length→lkOf x (kn:Int) y=([flopL x (andK x (kn:Int)).1,flopL x (andK x (kn:Int)).2],fwdMask (andK x (kn:Int))):=fun y h=>by unfold lkOf;rw[if_neg h]
 rw[hB]
 generalize lkOf x (kn:Int)=lk at *
 generalize flopL x (andK x (kn:Int)).1=fa at *
 generalize flopL x (andK x (kn:Int)).2=fb at *
 refine aw_loopN [false,false,true,false,false,false,false,false,true,true,false,false,false,false,false,false,false,false,false,false,false,false,false,false,false,false,false,true,true,true,false,false,false,false,false,false,false,false,false,false,false,false,false,false,false,false,false,false,false,false,false,false,false,false,false,false,false,false,false,false,false,false,false] (fun i:Nat=>i≤is.length) (fun i:Nat=>[(9,nilL i 4),(29,.d (.int .i64 i))]) (fun i:Nat=>nilLS i ((is.take i).map lk)) (fun i:Nat=>is.length - i) 0 ?_ ?_ ?_
 · exact Nat.zero_le _
 · exact⟨[0,1,2,3],by simp[nilL,nilLS]⟩
 rintro I S μ hI hS hμ i hi
 by_cases hlt:i<is.length
 · have hx1:is[i]? = some is[i]:=List.getElem?_eq_getElem hlt
   have hnx:=congrArg (List.map lk) (take_snoc' hx1)
   rw[List.map_append,List.map_singleton] at hnx
   have hll:((is.take i).map lk).length=i:=by simp;omega
   have hmem:=hin _ (List.getElem_mem hlt)
   have w2:IntKind.i64.wrap ((i:Int)+1)=(i:Int)+1:=wrap_id (by omega) (by omega)
   have hx2:∀ h:i<is.length,is[i]'h=is.getD i 0:=fun h=>by simp[List.getD_eq_getElem?_getD,h]
   have hx1:is[i]? = some (is.getD i 0):=by rw[hx1,←hx2 hlt]
   rw[hx2 hlt] at hnx hmem
   generalize is.getD i 0=y at *
   generalize (is.take i).map lk=ms at *
   by_cases hy:y<x.2.1.length
   · rw[hlk1 y hy] at hnx
     by_cases hi0:i=0
     · subst hi0
       obtain rfl:ms=[]:=List.eq_nil_of_length_eq_zero hll
       simp[nilL,nilLS,decide_eq_true hlt,hlt,hx1,hx2,decide_eq_true hy]
       first | refine app_lit (q:=1) vt_el_34 (by exact rfl) (by simp) (by exact rfl) (by exact rfl) (by simp) (by simp) (by first | (simp;done)|(simp;omega)) ?_|refine app_row vt_el_34 (by exact rfl) (by simp) (by exact rfl) (by simp) (by first | (simp;done)|(simp;omega)) ?_
       simp[w2,show IntKind.i64.wrap 1=1 from rfl]
       exact round_of hI hS hμ 1 (by omega) (by omega) ⟨[0,1,2,3,6],by simp[nilL,nilLS,hnx,enLink,e1,e2,eInt]⟩
     · simp[nilL,nilLS,decide_eq_true hlt,hx1,hi0,decide_eq_true hy]
       first | refine app_lit (q:=1) vt_el_34 (by exact rfl) (by simp) (by exact rfl) (by exact rfl) (by simp) (by simp) (by first | (simp;done)|(simp;omega)) ?_|refine app_row vt_el_34 (by exact rfl) (by simp) (by exact rfl) (by simp) (by first | (simp;done)|(simp;omega)) ?_
       simp[w2]
       exact round_of hI hS hμ (i+1) (by omega) (by omega) ⟨[0,1,2,3,7],by simp[nilL,nilLS,hnx,enLink,e1,e2,eInt]⟩
   · rw[hlk2 y hy] at hnx
     by_cases hi0:i=0
     · subst hi0
       obtain rfl:ms=[]:=List.eq_nil_of_length_eq_zero hll
       simp[nilL,nilLS,decide_eq_true hlt,hlt,hx1,hx2,decide_eq_false hy]
       refine callT_step (kt) [] [2] (by simp) ?_
       simp
       refine drawD_of 14 (by kernel_rfl) ?_
       simp[enGr]
       refine call_step (kfa) ?_
       simp[enGr]
       refine call_step (kfb) ?_
       simp[enGr]
       first | refine app_lit (q:=1) vt_el_34 (by exact rfl) (by simp) (by exact rfl) (by exact rfl) (by simp) (by simp) (by first | (simp;done)|(simp;omega)) ?_|refine app_row vt_el_34 (by exact rfl) (by simp) (by exact rfl) (by simp) (by first | (simp;done)|(simp;omega)) ?_
       simp[w2,show IntKind.i64.wrap 1=1 from rfl]
       exact round_of hI hS hμ 1 (by omega) (by omega) ⟨[0,1,2,3,7],by simp[nilL,nilLS,hnx,enLink,e1,e2,eInt]⟩
     · simp[nilL,nilLS,decide_eq_true hlt,hx1,hi0,decide_eq_false hy]
       refine callT_step (kt) [] [2] (by simp) ?_
       simp
       refine drawD_of 14 (by kernel_rfl) ?_
       simp[enGr]
       refine call_step (kfa) ?_
       simp[enGr]
       refine call_step (kfb) ?_
       simp[enGr]
       first | refine app_lit (q:=1) vt_el_34 (by exact rfl) (by simp) (by exact rfl) (by exact rfl) (by simp) (by simp) (by first | (simp;done)|(simp;omega)) ?_|refine app_row vt_el_34 (by exact rfl) (by simp) (by exact rfl) (by simp) (by first | (simp;done)|(simp;omega)) ?_
       simp[w2]
       exact round_of hI hS hμ (i+1) (by omega) (by omega) ⟨[0,1,2,3,8],by simp[nilL,nilLS,hnx,enLink,e1,e2,eInt]⟩
 · obtain rfl:i=is.length:=by omega
   rw[List.take_length]
   by_cases hi0:is.length=0
   · obtain rfl:=List.eq_nil_of_length_eq_zero hi0
     simp[nilL,nilLS]
   · simp[nilL,nilLS,hlt,hi0,decide_eq_false hlt]
end Go.Proofs.Ytnjedabjbeipeaa
