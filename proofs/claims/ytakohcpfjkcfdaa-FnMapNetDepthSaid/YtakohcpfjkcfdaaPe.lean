/-
  Mappings that are drawn: each a valid mapping of a valid net. Plain lemmas and abstract walks.
  Conditions: those typed in each theorem.
-/
import Derived.Test.YtakohcpfjkcfdaaPd
import Derived.Test.YtakohcpfjkcfdaaLc
namespace Go.Proofs.Ytakohcpfjkcfdaa
open Go.RowKit Go.ChangeShapes Go.WideShapes
set_option linter.unusedVariables false
set_option linter.unusedSimpArgs false
attribute [local simp ↓] condG_true condG_false condB_true condB_false
attribute [local simp] AWp_skip AWp_region_t AWp_region_d AWp_region_f still_mk AWp_seq AWp_cond condV_bool condB AWp_block AWp_exit AWp_ret
attribute [local simp] AOps_nil AOp_move AOp_assign AOp_pick AOp_binOp AOp_unOp AOp_convert AOp_len AOp_max AOp_min AOp_indexAddr AOp_load
attribute [local simp] AOp_fieldAddr AOp_field AOp_extract AOp_nilCheck AOp_build AOp_alloc AOp_box AOp_call AOp_store AOp_append AOp_buildSlice nextB_some
attribute [local simp] nextB_none adoptO adoptC AOp_makeSlice AOp_slice AOp_makeFunc AOp_guard guardD_some guardG_bool guardG_undef nextO_some nextS_some
attribute [local simp] nextZ_some nextL_some nextM_some nextT_some sliceO sliceL sliceT partO partV boundV funcO pickO
attribute [local simp] convO lenO maxO minO idxO extO nilO buildO litO litC makeO chunks
attribute [local simp] fillV placeOf thenA inBlockA St.get St.put St.eval ofCell evalT abin_add abin_sub abin_mul
attribute [local simp] abin_quo abin_rem abin_and abin_or abin_xor abin_andNot abin_shl abin_shr abin_shlu abin_eql abin_eqp abin_neq
attribute [local simp] abin_lss abin_leq abin_gtr abin_geq abin_eqlb abin_neqb aun pickV lenV intOf? indexV takeD
attribute [local simp] takeV loadV fieldAddrV fieldV ofX presD presDs pres presAll cellsV V.cell storeV
attribute [local simp] freezeC putAt kill takeC plains plainV scalarV nat_neg keepT sets eSl e1
attribute [local simp] e2 e3 e4 eInt eBool abinS_d abinS_agg abinS nilEq abin_eqb AOp_makeMap AOp_lookup
attribute [local simp] AOp_mapUpdate lookG_some updG_some mapV kyOf vlOf lookV vlV buildA afterCall inst inst1
attribute [local simp] inst1s instD instDs RetA resVs resV gives give1 give1s Le isPin leSlots
attribute [local simp] leS leTmps leV le0 le0s ren ren0 renS ren0s frame enterT afterT_some
attribute [local simp] afterC_some lives Slot.live arrsOk viewV view0 renT rens renSs setAll List.range'_succ RetT
attribute [local simp] RetW joinV leT AOpsE_nil AOpsE_cons AOpsT_nil AOpsT_cons isCallT isFnO callOf callVC_fn condC_true
attribute [local simp] condC_false beginT_mk thenT_mk pickE pickT isT loose namesOf namesV names1 names0 stableN
attribute [local simp] sameAt Op.operands Call.operands
theorem mapOk_mk {x:GrD} {cs:List RowD} (hok:netOkB x=true) (hl:cs.length=x.2.2.1.length) (h:∀ (k:Nat) (c:RowD),cs[k]? = some c→mapAtB x c k=true):mapOkB x cs=true:=by
 simp only[mapOkB,Bool.and_eq_true,decide_eq_true_eq]
 refine⟨⟨hok,hl⟩,?_⟩
 unfold mapsB
 rw[List.all_eq_true]
 intro i hi
 have hil:=List.mem_range.1 hi
 rw[List.getElem?_eq_getElem hil]
 exact h i _ (List.getElem?_eq_getElem hil)
def stC (x:GrD) (i:Nat) (p:Cur×List RowD):Cur×List RowD :=
 if onceV p.1 2=true then (belowC (belowC p.1 2) ((enumL x (firstG x+i)).length - 1:Nat),p.2.set i ((enumL x (firstG x+i)).getD (belowV (belowC p.1 2) ((enumL x (firstG x+i)).length - 1:Nat)).toNat []))
 else (belowC p.1 2,p.2)
def ctC (x:GrD) (c:Cur):Nat→Cur×List RowD
 | 0=>(c,depthMap x)
 | i+1=>stC x i (ctC x c i)
theorem ctC_ok {x:GrD} {c:Cur} (h:c.ok):∀ i,(ctC x c i).1.ok
 | 0=>h
 | i+1=>by
   have ih:=ctC_ok (x:=x) h i
   unfold ctC stC
   split
   · exact belowC_ok (belowC_ok ih)
   · exact belowC_ok ih
theorem ctC_len {x:GrD} {c:Cur} (hok:netOkB x=true):∀ i,(ctC x c i).2.length=x.2.2.1.length
 | 0=>by simp[ctC,depthMap,hok,depK]
 | i+1=>by
   have ih:=ctC_len (c:=c) hok i
   unfold ctC stC
   split<;>simp[ih]
theorem ctC_map {x:GrD} {c:Cur} (hok:netOkB x=true):∀ i,i≤x.2.2.1.length→∀ (k:Nat) (r:RowD),(ctC x c i).2[k]? = some r→mapAtB x r k=true
 | 0,_,k,r,h=>by
   have hN:=grN_eq x
   simp only[ctC,depthMap,hok,if_true,depK,List.getElem?_map] at h
   obtain⟨j,hj,rfl⟩:=Option.map_eq_some_iff.1 h
   have hk:k<x.2.2.1.length:=by
    have:=(List.getElem?_eq_some_iff.1 hj).1
    simpa using this
   rw[List.getElem?_range hk] at hj
   obtain rfl:=Option.some.inj hj
   exact depth_map hok (by omega)
 | i+1,hi,k,r,h=>by
   have ih:=ctC_map (c:=c) hok i (by omega)
   have hN:=grN_eq x
   unfold ctC stC at h
   split at h
   · simp only at h
     obtain⟨e2,e8,eM⟩:=enumL_map hok (i:=i) (by omega)
     rw[List.getElem?_set] at h
     split at h
     · rename_i e
       subst e
       split at h
       · obtain rfl:=Option.some.inj h
         have hr:=belowV_rng (belowC (ctC x c i).1 2) (n:=((enumL x (firstG x+i)).length - 1:Nat)) (by omega)
         generalize belowV (belowC (ctC x c i).1 2) ((enumL x (firstG x+i)).length - 1:Nat)=z at *
         obtain⟨q,rfl⟩:∃ q:Nat,z=q:=⟨z.toNat,by omega⟩
         rw[Int.toNat_natCast]
         have hq:q<(enumL x (firstG x+i)).length:=by omega
         rw[List.getD_eq_getElem?_getD,List.getElem?_eq_getElem hq,Option.getD_some]
         exact eM q _ (List.getElem?_eq_getElem hq) (by omega)
       · cases h
     · exact ih k r h
   · exact ih k r h
set_option maxRecDepth 100000 in
set_option maxHeartbeats 4000000 in
theorem sEnum_conT (x:GrD) (v:Nat) (hx:fitGr 1048576 x) (hg:okGr x) (hok:netOkB x=true) (hv:v<grN x) (hl:(enumL x v).length≤8) (h4:∀ c∈enumL x v,c.length≤4):ConT Try.prog 50 [dgr x,.d (.int .i64 v)] [] (.d (erows (enumL x v))) []:=by
 have kO:=sNetOk_con x hx hg
 rw[hok] at kO
 obtain⟨hF,hgl,hNi,hno⟩:=ok_sizes hok
 have kN:=sNodeCount_con x
 rw[hno] at kN
 have kA:=l13All_conT x v hx hok hv
 obtain⟨l,hl1⟩:=allG_at (x:=x) (Nat.le_refl v)
 have hE:enumL x v=l:=by unfold enumL;rw[hl1];rfl
 rw[hE] at hl h4 ⊢
 generalize allG x v=al at *
 have hL1:(en3 l).length=1:=rfl
 have hd0:¬ (v:Int)<0:=by omega
 have hdN:¬ (grN x:Int)≤v:=by omega
 have hdN2:¬ grN x≤v:=by omega
 refine conT_ofD (by kernel_rfl) Try.func50 rfl rfl rfl (by simp[laters,Later]) (by simp[lives,Slot.live]) ?_
 simp
 refine call_step (kO) ?_
 simp
 refine call_step (kN) ?_
 simp[hdN,hdN2]
 refine callT_step (kA) [] [] (by simp) ?_
 simp
 refine aw_loopN [false,true,false,false,false,true,true,true,false,false,false,false,false,false,false,false,false,false,false,false,false,false,false,false,false,false,false,false,false,false,false,false,false,false,false,false,false,false,false,false,false,false,false,false,false,false,false,false] (fun i:Nat=>i≤l.length) (fun i:Nat=>[(5,.ref 1),(6,.d (.sl 29 (al.map en3))),(7,.d (.int .i64 i))]) (fun i:Nat=>fun sl=>[dgrV x,.arr 26 true ((l.take i).map enRow)]) (fun i:Nat=>l.length - i) 0 ?_ ?_ ?_
 · simp
 · exact⟨[0,1],by simp[dgrV]⟩
 rintro I S μ hI hS hμ i hi
 by_cases hlt:i<l.length
 · obtain⟨c,hc1⟩:∃ c,l[i]? = some c:=⟨_,List.getElem?_eq_getElem hlt⟩
   have hd:=decide_eq_true hlt
   have hc4:=h4 c (List.mem_of_getElem? hc1)
   have hLc:(enRow c).length=1:=rfl
   have hnx:(l.take (i+1)).map enRow=(l.take i).map enRow++[enRow c]:=by rw[take_snoc' hc1,List.map_append];rfl
   have hll:((l.take i).map enRow).length=i:=by simp;omega
   have w1:IntKind.i64.wrap ((i:Int)+1)=(i:Int)+1:=wrap_id (by omega) (by omega)
   generalize (l.take i).map enRow=ms at *
   simp[hl1,hL1,hd,en3,e1,eSl,hc1,hLc,enRow]
   refine app_data vt_el_26 rfl (by simp) rfl (by simp) (by simp) (by first | (simp;done)|(simp;omega)) (by simp[flatP,flatD]) ?_
   simp
   first | refine app_lit (q:=1) vt_el_29 (by exact rfl) (by simp) (by exact rfl) (by exact rfl) (by simp) (by simp) (by first | (simp;done)|(simp;omega)) ?_|refine app_row vt_el_29 (by exact rfl) (by simp) (by exact rfl) (by simp) (by first | (simp;done)|(simp;omega)) ?_
   simp[w1]
   exact round_of hI hS hμ (i+1) (by omega) (by omega) ⟨[0,5],by simp[hnx,enRow,e1,eSl,eInt,dgrV]⟩
 obtain rfl:i=l.length:=by omega
 rw[List.take_length]
 simp[hl1,hL1,hlt,decide_eq_false hlt,en3,e1,eSl]
 exact⟨[],by simp⟩
set_option maxRecDepth 100000 in
set_option maxHeartbeats 4000000 in
theorem l18Cuts_conT (x:GrD) (c:Cur) (h:c.ok) (hx:fitGr 1048576 x) (hg:okGr x) (hok:netOkB x=true):ConT Try.prog 25 [.ptr 0 0,dgr x] [enCur c] (.d (erows (ctC x c x.2.2.1.length).2)) [enCur (ctC x c x.2.2.1.length).1]:=by
 obtain⟨⟨n1,n2,n3,n4,n5,n6⟩,-,-,-⟩:=netOk_of hok
 obtain⟨hF,hgl,hNi,hno⟩:=ok_sizes hok
 have hN:=grN_eq x
 have kD:=sDepth_con' x hx hg
 have kF:=sFirst_con x ⟨n1,n2⟩ n3
 rw[←hF] at kF
 have hD0:depthMap x=(ctC x c 0).2:=rfl
 have hD1:(ctC x c 0).1=c:=rfl
 have hcl:=fun i=>ctC_len (c:=c) hok i
 have hco:=fun i=>ctC_ok (x:=x) h i
 rw[hD0] at kD
 refine conT_ofD (by kernel_rfl) Try.func25 rfl rfl rfl (by simp[laters,Later]) (by simp[lives,Slot.live]) ?_
 simp
 refine call_step (kD) ?_
 simp[enGr]
 refine aw_loopN [true,false,false,true,false,true,true,false,false,false,false,false,false,false,false,false,false,false,false,false,false,false,false,false,false,false,false,false,false,false,false,false,false,false,false,false,false] (fun i:Nat=>i≤x.2.2.1.length) (fun i:Nat=>[(5,.ref 2),(6,.d (.int .i64 i))]) (fun i:Nat=>fun sl=>[enCur (ctC x c i).1,dgrV x,.arr 26 false ((ctC x c i).2.map enRow)]) (fun i:Nat=>x.2.2.1.length - i) 0 ?_ ?_ ?_
 · simp
 · exact⟨[0,1,2],by simp[dgrV,hD1]⟩
 rintro I S μ hI hS hμ i hi
 have hl1:=hcl i
 have hok2:=hco i
 have hst:ctC x c (i+1)=stC x i (ctC x c i):=rfl
 by_cases hlt:i<x.2.2.1.length
 · have hd:=decide_eq_true hlt
   have w1:IntKind.i64.wrap ((i:Int)+1)=(i:Int)+1:=wrap_id (by omega) (by omega)
   have hN2:firstG x+i<grN x:=by omega
   obtain⟨e2,e8,eM⟩:=enumL_map hok (i:=i) hN2
   have hgood:=(enumL_good hok _ hN2).1
   have kE:=sEnum_conT x (firstG x+i) hx hg hok hN2 e8 (fun r hr=>(hgood r hr).len)
   have w2:IntKind.i64.wrap ((firstG x:Int)+i)=((firstG x+i:Nat):Int):=by rw[wrap_id (by omega) (by omega)];omega
   unfold stC at hst
   generalize ctC x c i=p at *
   obtain⟨cp,rs⟩:=p
   simp only at hst hl1 hok2
   have k1:=l01Once_conT cp 2 hok2 (by omega)
   have hok3:=belowC_ok (n:=2) hok2
   cases ho:onceV cp 2 with
   | false =>
     rw[ho,if_neg (by simp)] at hst
     rw[ho] at k1
     simp[hl1,hd]
     refine callT_step (k1) [] [0] (by simp) ?_
     simp[w1]
     exact round_of hI hS hμ (i+1) (by omega) (by omega) ⟨[0,1,2],by simp[hst,dgrV]⟩
   | true =>
     rw[ho,if_pos rfl] at hst
     rw[ho] at k1
     generalize enumL x (firstG x+i)=L at *
     generalize belowC cp 2=d1 at *
     have k2:=l01Below_conT d1 (L.length - 1:Nat) hok3 (by omega)
     have hr:=belowV_rng d1 (n:=(L.length - 1:Nat)) (by omega)
     have w3:IntKind.i64.wrap ((L.length:Int) - 1)=((L.length - 1:Nat):Int):=by rw[wrap_id (by omega) (by omega)];omega
     have hmx:(if (1:Int)<((L.length - 1:Nat):Int) then ((L.length - 1:Nat):Int) else 1)=((L.length - 1:Nat):Int):=by split<;>omega
     have hLp:1≤L.length - 1:=by omega
     have hLL:L.length - 1<L.length:=by omega
     generalize hn1:L.length - 1=n1' at *
     generalize belowV d1 (n1':Int)=z at *
     generalize belowC d1 (n1':Int)=d2 at *
     obtain⟨q,rfl⟩:∃ q:Nat,z=q:=⟨z.toNat,by omega⟩
     rw[Int.toNat_natCast] at hst
     have hq:L[q]? = some (L.getD q []):=by rw[List.getD_eq_getElem?_getD,List.getElem?_eq_getElem (by omega)];rfl
     generalize L.getD q []=r at *
     obtain⟨r0,hr0⟩:∃ r0,rs[i]? = some r0:=⟨_,List.getElem?_eq_getElem (by omega)⟩
     have hLr:(enRow r).length=1:=rfl
     have hLr0:(enRow r0).length=1:=rfl
     have hset:(rs.map enRow).set i [D.sl 3 (r.map (e1 eInt))]=(rs.set i r).map enRow:=by rw[List.map_set];rfl
     generalize hr2:rs.set i r=rs2 at *
     have hmx2:(if 1<n1' then (n1':Int) else 1)=n1':=by split<;>omega
     simp[hl1,hd]
     refine callT_step (k1) [] [0] (by simp) ?_
     simp
     refine drawD_of 5 (by kernel_rfl) ?_
     simp
     refine call_step (kF) ?_
     simp[w2]
     refine callT_step (kE) [] [] (by simp) ?_
     simp[w3,hmx,hmx2]
     refine callT_step (k2) [] [0] (by simp) ?_
     simp[hq,hLr,hr0,hLr0,enRow,e1,eSl,hset,w1]
     exact round_of hI hS hμ (i+1) (by omega) (by omega) ⟨[0,1,2],by simp[hst,dgrV]⟩
 obtain rfl:i=x.2.2.1.length:=by omega
 simp[hl1,hlt,decide_eq_false hlt]
 exact⟨[0],by simp⟩
def drN (bs:List Int):GrD:=hashG (sizedG (cur0 bs))
def drM (bs:List Int):List RowD:=(ctC (drN bs) (sizedC (cur0 bs)) (drN bs).2.2.1.length).2
theorem drN_ok (bs:List Int):netOkB (drN bs)=true:=hashG_ok sizedG_ok
theorem drM_ok (bs:List Int):mapOkB (drN bs) (drM bs)=true:=mapOk_mk (drN_ok bs) (ctC_len (drN_ok bs) _) (ctC_map (drN_ok bs) _ (Nat.le_refl _))
set_option maxRecDepth 100000 in
theorem DrawMapping_conT (bs:List Int) (h:bs.length≤1048576):ConT Try.prog 7 [.d (.sl 5 (bs.map (e1 eByte)))] [] (.tup [dgr (drN bs),.d (erows (drM bs))]) []:=by
 have hz:=sizedG_ok (c:=cur0 bs)
 have hN:=drN_ok bs
 have k1:=l01New_conT bs h
 have hc:=cur0_ok h
 have k2:=l08Sized_conT (cur0 bs) hc
 have hs3:(sizedG (cur0 bs)).2.2.1.length<300:=by
  have h3:=(sized_nums (cur0 bs)).2.2
  have:(sizedG (cur0 bs)).2.2.1.length=szAn (cur0 bs):=drA_len _
  omega
 have k3:=sHash_conT (sizedG (cur0 bs)) (fitGr_netOk hz) (okGr_netOk hz) hz hs3
 have hc2:=sizedC_ok hc
 have k4:=l18Cuts_conT (drN bs) (sizedC (cur0 bs)) hc2 (fitGr_netOk hN) (okGr_netOk hN) hN
 have e1':hashG (sizedG (cur0 bs))=drN bs:=rfl
 have e2':(ctC (drN bs) (sizedC (cur0 bs)) (drN bs).2.2.1.length).2=drM bs:=rfl
 rw[e1'] at k3
 rw[e2'] at k4
 generalize drM bs=C at *
 generalize (ctC (drN bs) (sizedC (cur0 bs)) (drN bs).2.2.1.length).1=cc at *
 generalize drN bs=n at *
 generalize sizedC (cur0 bs)=c2 at *
 generalize sizedG (cur0 bs)=g at *
 generalize cur0 bs=c1 at *
 refine conT_ofD (by kernel_rfl) Try.func7 rfl rfl rfl (by simp[laters,Later]) (by simp[lives,Slot.live]) ?_
 simp
 refine callT_step (k1) [] [] (by simp) ?_
 simp
 refine callT_step (k2) [] [1] (by simp) ?_
 simp
 refine callT_step (k3) [] [] (by simp) ?_
 simp
 refine drawE_of [(3,[0]),(4,[]),(5,[])] (by kernel_rfl) ?_
 simp
 refine callC_step (k4) [] [1] (by simp) (by simp[nearTo]) ?_
 simp
 exact⟨[],by simp⟩
end Go.Proofs.Ytakohcpfjkcfdaa
