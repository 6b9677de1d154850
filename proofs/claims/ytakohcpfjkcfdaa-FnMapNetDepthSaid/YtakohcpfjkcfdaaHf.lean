/-
  A cut below a height, by the program. By abstract walks.
  Conditions: those typed in each theorem.
-/
import Derived.Test.YtakohcpfjkcfdaaHe
import Derived.Test.YtakohcpfjkcfdaaFh
namespace Go.Proofs.Ytakohcpfjkcfdaa
open Go.RowKit Go.ChangeShapes Go.WideShapes
set_option linter.unusedVariables false
set_option linter.unusedSimpArgs false
attribute [local simp ↓] condG_true condG_false condB_true condB_false
attribute [local simp] AWp_skip AWp_region_t AWp_region_d AWp_region_f still_mk AWp_seq AWp_cond condV_bool condB AWp_block AWp_exit AWp_ret
attribute [local simp] AOps_nil AOp_move AOp_assign AOp_pick AOp_binOp AOp_unOp AOp_convert AOp_len AOp_max AOp_min AOp_indexAddr AOp_load
attribute [local simp] AOp_fieldAddr AOp_field AOp_extract AOp_nilCheck AOp_build AOp_alloc AOp_box AOp_call AOp_store AOp_append AOp_buildSlice nextB_some
attribute [local simp] nextB_none adoptO adoptC AOp_makeSlice AOp_slice AOp_makeFunc AOp_guard guardD_some guardG_bool guardG_undef nextO_some nextS_some
attribute [local simp] nextZ_some nextL_some nextM_some nextT_some sliceO sliceL sliceT partO partV boundV funcO pickO
attribute [local simp] convO lenO maxO minO idxO extO nilO buildO litO litC makeO chunks
attribute [local simp] fillV placeOf thenA inBlockA St.get St.put St.eval ofCell evalT abin_add abin_sub abin_mul
attribute [local simp] abin_quo abin_rem abin_and abin_or abin_xor abin_andNot abin_shl abin_shr abin_shlu abin_eql abin_eqp abin_neq
attribute [local simp] abin_lss abin_leq abin_gtr abin_geq abin_eqlb abin_neqb aun pickV lenV intOf? indexV takeD
attribute [local simp] takeV loadV fieldAddrV fieldV ofX presD presDs pres presAll cellsV V.cell storeV
attribute [local simp] freezeC putAt kill takeC plains plainV scalarV nat_neg keepT sets eSl e1
attribute [local simp] e2 e3 e4 eInt eBool abinS_d abinS_agg abinS nilEq abin_eqb AOp_makeMap AOp_lookup
attribute [local simp] AOp_mapUpdate lookG_some updG_some mapV kyOf vlOf lookV vlV buildA afterCall inst inst1
attribute [local simp] inst1s instD instDs RetA resVs resV gives give1 give1s Le isPin leSlots
attribute [local simp] leS leTmps leV le0 le0s ren ren0 renS ren0s frame enterT afterT_some
attribute [local simp] afterC_some lives Slot.live arrsOk viewV view0 renT rens renSs setAll List.range'_succ RetT
attribute [local simp] RetW joinV leT AOpsE_nil AOpsE_cons AOpsT_nil AOpsT_cons isCallT isFnO callOf callVC_fn condC_true
attribute [local simp] condC_false beginT_mk thenT_mk pickE pickT isT loose namesOf namesV names1 names0 stableN
attribute [local simp] sameAt Op.operands Call.operands
abbrev hcJ (x:GrD) (v:Nat) (h:Int) (lab:List Int):Option (List Nat):=hcI (grN x) (firstG x) (kidA x) (kidB x) (coneL x) v h lab
theorem flI_zero {N F:Nat} {ka kb:Nat→Nat} {fr:List Bool}:FlI N F ka kb fr (List.replicate N 0,[]):=by
 have hz:∀ k,getZ (List.replicate N 0) k=0:=fun k=>getZ_rep
 refine⟨by simp,⟨fun k=>?_,fun k _=>?_,hz 0,fun c p=>?_,fun c p hc=>?_⟩⟩
 · simp only;rw[hz];omega
 · simp only;rw[hz];omega
 · simp[edM]
 · simp[edM] at hc
theorem stB_zero {N:Nat}:StB 0 N (List.replicate N 0,[]):=by
 refine⟨by simp,fun k=>?_,fun c p=>?_,by simp⟩
 · simp only;rw[getZ_rep];omega
 · simp[edM]
def outJ (es:Es) (j:Nat):List Nat:=(List.range j).filter fun k=>decide (2*k∈keyE es)&&(!decide (2*k+1∈keyE es)&&decide (k≠0))
theorem outJ_succ {es:Es} {j:Nat}:outJ es (j+1)=if 2*j∈keyE es∧2*j+1∉keyE es∧j≠0 then outJ es j++[j] else outJ es j:=by
 unfold outJ
 rw[List.range_succ,List.filter_append]
 by_cases h1:2*j∈keyE es<;>by_cases h2:2*j+1∈keyE es<;>by_cases h3:j=0<;>simp[h1,h2,h3]
theorem outJ_len {es:Es} {j:Nat}:(outJ es j).length≤j:=by
 have:=List.length_filter_le (fun k=>decide (2*k∈keyE es)&&(!decide (2*k+1∈keyE es)&&decide (k≠0))) (List.range j)
 simpa [outJ] using this
theorem srcE_no {es:Es} {t:Nat} (h:srcE es t=none):t∉keyE es:=fun hm=>by
 obtain⟨i,z,hi⟩:=keyE_of hm
 unfold srcE at h
 rw[Option.map_eq_none_iff,List.find?_eq_none] at h
 exact h _ (List.mem_of_getElem? hi) (by simp)
theorem srcE_yes {es:Es} {t:Nat} {z:Int} (h:srcE es t=some z):t∈keyE es:=by
 unfold srcE at h
 rw[Option.map_eq_some_iff] at h
 obtain⟨p,hp,-⟩:=h
 have h1:=List.find?_some hp
 have:p.1=t:=by simpa using h1
 exact List.mem_map.2 ⟨p,List.mem_of_find?_eq_some hp,this⟩
def cuC (S:List Int):V:=if S=[] then .nil 3 else .ref 1
def cuS (S:List Int):List Slot:=if S=[] then [] else [.arr 3 true (S.map (e1 eInt))]
theorem cuC_nil:cuC []=.nil 3:=rfl
theorem cuS_nil:cuS []=[]:=rfl
theorem cuC_row {S:List Int} (h:S≠[]):cuC S=.ref 1:=if_neg h
theorem cuS_row {S:List Int} (h:S≠[]):cuS S=[.arr 3 true (S.map (e1 eInt))]:=if_neg h
theorem resP_none:resP none=.nilp:=rfl
theorem resS_none:resS none=[]:=rfl
theorem resP_some {w:Nat}:resP (some w)=.ptr 6 0:=rfl
theorem resS_dn {k:Nat}:resS (some (2*k+1))=[.var 84 [.d (.int .i64 (k:Int)),.d (.bool false)]]:=by
 have:=vSt_dn (k:=k)
 unfold vSt at this
 unfold resS
 simp only
 rw[this]
set_option maxRecDepth 100000 in
set_option maxHeartbeats 4000000 in
theorem heightCut_con (x:GrD) (lab:List Int) (v:Nat) (h:Int) (hx:fitGr 1048576 x) (hok:netOkB x=true) (hF:firstG x≤v) (hv:v<grN x) (hlab:lab.length=grN x) :
 ConC Try.prog 32 [igr x,.d (.int .i64 v),.d (.int .i64 h),ints lab] (.tup [ints (cutZ (hcJ x v h lab)),.d (.bool (hcJ x v h lab).isSome)]):=by
 obtain⟨⟨n1,n2,n3,n4,n5,n6⟩,-,-,-⟩:=netOk_of hok
 have hNN:=grN_eq x
 have hFi:(firstG x:Int)=1+x.1+x.2.1.length:=by unfold firstG;omega
 have hgl:grN x≤400:=by unfold firstG at hNN;omega
 have hcl:=coneL_len (x:=x) (v:=v)
 have hNi:(1+x.1+(x.2.1.length:Int)+(x.2.2.1.length:Int)).toNat=grN x:=by omega
 have hrB:List.replicate (grN x) [D.bool false]=(List.replicate (grN x) false).map (e1 eBool):=by rw[List.map_replicate];rfl
 have hrI:List.replicate (grN x) [D.int .i64 0]=(List.replicate (grN x) (0:Int)).map (e1 eInt):=by simp[e1,eInt]
 have hm:=markCone_conT x hx hok (v+1) v (List.replicate (grN x) false) (by omega) hv (by simp)
 have hc:mconeG x (v+1) v (List.replicate (grN x) false)=coneL x v:=rfl
 rw[hc] at hm
 refine con_ofD (by kernel_rfl) Try.func32 rfl rfl rfl ?_
 simp[enGr]
 refine drawD_of 15 (by kernel_rfl) ?_
 simp[enGr]
 refine call_step (iNodeCnt_con x ⟨n1,n2⟩ n3 n4) ?_
 simp[hNi]
 refine⟨⟨by omega,by omega⟩,?_⟩
 refine call_step (iNodeCnt_con x ⟨n1,n2⟩ n3 n4) ?_
 simp[hNi]
 refine⟨⟨by omega,by omega⟩,?_⟩
 refine call_step (iNodeCnt_con x ⟨n1,n2⟩ n3 n4) ?_
 simp[hNi]
 refine⟨⟨by omega,by omega⟩,?_⟩
 rw[hrB,hrI]
 refine drawD_of 6 (by kernel_rfl) ?_
 simp[enGr]
 refine callT_step (hm) [] [1] (by simp) ?_
 simp
 obtain⟨U,hU⟩:∃ U,upL (grN x) (coneL x) v h lab=U:=⟨_,rfl⟩
 have hUl:U.length=grN x:=by rw[←hU];simp[upL]
 have hUg:∀ k,k<grN x→U[k]? = some (decide (k=v)||(getB (coneL x v) k&&decide (h≤getZ lab k))):=fun k hk=>by
  have h1:=upL_get (N:=grN x) (cn:=coneL x) (v:=v) (h:=h) (lab:=lab) (k:=k)
  rw[hU] at h1
  unfold getB at h1
  rw[List.getElem?_eq_getElem (by omega)] at h1 ⊢
  simp only[Option.getD_some,hk,decide_true,Bool.true_and] at h1
  rw[h1]
  rfl
 have hJ:hcJ x v h lab=goI (grN x) (firstG x) (kidA x) (kidB x) v U 4 (List.replicate (grN x) 0,[]):=by rw[←hU];rfl
 generalize hcJ x v h lab=R at hJ ⊢
 refine aw_loopN [false,true,true,true,false,false,false,false,false,false,true,false,false,false,false,false,false,false,false,false,false,false,false,false,false,false,false,false,false,false,false,false,false,false,false,false,false,false,false,false,false,false,false,false,false,false,true,true,false,false,false,false,false,false,false,false,false,false,false,false,false,false,false,false,false,false,false,false,false,false,false,false,false,false,false,false,false,false,false,false,false,false,false,false,false,false,false,false,false,false,false,false,false,false,false,false,false,false,false,false,false,false,false,false,false,false,false,false,false,false,false,false,false,false,false,false,false,false,false,false,false,false,false,false,false,false,false,false,false,false,false] (fun j:Nat=>j≤grN x) (fun j:Nat=>[(10,.ptr 0 0),(46,.d (.int .i64 (grN x:Int))),(47,.d (.int .i64 j))]) (fun j:Nat=>fun sl=>slF x v (coneL x v) (mix U false j) (List.replicate (grN x) 0,[])) (fun j:Nat=>grN x - j) 0 ?_ ?_ ?_
 · exact Nat.zero_le _
 · exact⟨[5,1,2,3,4],by simp[mix_zero,hUl,mpM]⟩
 rintro I S μ hI hS hμ j hj
 by_cases hlt:j<grN x
 · have hm0:(mix U false j)[j]? = some false:=mix_at (by omega)
   have hlm:(mix U false j).length=grN x:=by rw[mix_len (by omega),hUl]
   have hcj:(coneL x v)[j]? = some (getB (coneL x v) j):=getB_at (by omega)
   have hlj:lab[j]? = some (getZ lab j):=by unfold getZ;rw[List.getElem?_eq_getElem (by omega)];rfl
   have hset:∀ b,U[j]? = some b→((mix U false j).map (e1 eBool)).set j [.bool b]=(mix U false (j+1)).map (e1 eBool):=fun b hb=>by rw[map_setB,mix_set hb]
   have hUj:=hUg j hlt
   have w1:IntKind.i64.wrap ((j:Int)+1)=(j:Int)+1:=wrap_id (by omega) (by omega)
   by_cases hjv:j=v
   · have e1':((j:Int)==(v:Int))=true:=by simp[hjv]
     have hs1:=hset true (by rw[hUj];simp[hjv])
     simp[hlt,decide_eq_true hlt]
     refine drawD_of 26 (by kernel_rfl) ?_
     simp[e1',hm0,hs1,w1]
     exact round_of hI hS hμ (j+1) (by omega) (by omega) ⟨[0,1,2,3,4],by simp⟩
   · have e1':((j:Int)==(v:Int))=false:=by simp;omega
     cases hcb:getB (coneL x v) j with
     | false =>
       rw[hcb] at hcj hUj
       have hs1:=hset false (by rw[hUj];simp[hjv])
       simp[hlt,decide_eq_true hlt]
       refine drawD_of 26 (by kernel_rfl) ?_
       simp[e1',hm0,hs1,w1,hcj]
       exact round_of hI hS hμ (j+1) (by omega) (by omega) ⟨[0,1,2,3,4],by simp⟩
     | true =>
       rw[hcb] at hcj hUj
       have hs1:=hset (decide (h≤getZ lab j)) (by rw[hUj];simp[hjv])
       simp[hlt,decide_eq_true hlt]
       refine drawD_of 26 (by kernel_rfl) ?_
       simp[e1',hm0,hs1,w1,hcj,hlj]
       exact round_of hI hS hμ (j+1) (by omega) (by omega) ⟨[0,1,2,3,4],by simp⟩
 obtain rfl:j=grN x:=by omega
 have hmU:mix U false (grN x)=U:=by rw[←hUl];exact mix_all
 rw[hmU]
 simp
 refine aw_loopN [false,false,false,false,false,false,false,false,false,false,true,false,true,false,false,false,false,false,false,false,false,false,false,false,false,false,false,false,false,false,false,false,false,false,false,false,false,false,false,false,false,false,false,false,false,false,false,false,false,false,false,false,false,false,false,false,false,false,false,false,false,false,false,false,false,false,false,false,false,false,false,false,false,false,false,false,false,false,false,false,false,false,false,false,false,false,false,false,false,false,false,false,false,false,false,false,false,false,false,false,false,false,false,false,false,false,false,false,false,false,false,false,false,false,false,false,false,false,false,false,false,false,false,false,false,false,false,false,false,false,false] (fun i:Nat×StI=>i.1≤4∧FlI (grN x) (firstG x) (kidA x) (kidB x) U i.2∧StB ((i.1:Int)*801) (grN x) i.2∧goI (grN x) (firstG x) (kidA x) (kidB x) v U (4 - i.1) i.2=R) (fun i:Nat×StI=>[(10,.ptr 0 0),(12,.d (.int .i64 i.1))]) (fun i:Nat×StI=>fun sl=>slF x v (coneL x v) U i.2) (fun i:Nat×StI=>5 - i.1) (0,List.replicate (grN x) 0,[]) ?_ ?_ ?_
 · exact⟨by simp,flI_zero,stB_zero,hJ.symm⟩
 · exact⟨[0,1,2,3,4],by simp⟩
 rintro I2 S2 μ2 hI2 hS2 hμ2 ⟨i,s⟩ ⟨hi,hFl,hSt,hgo⟩
 simp only at hi hFl hSt hgo
 have hN:=(netF_of hok).netI hF hv U
 have ks:=search_con x v (coneL x v) U s _ hx hok hcl hUl hN hFl rfl
 have hG:=fun w hw=>pushI_grows (w:=w) hN hFl hw
 obtain⟨h1,-,h3⟩:=seekI_facts hN hFl
 have hgo':(match seekI (grN x) (firstG x) (kidA x) (kidB x) v U s with
  | (es,none)=>some (outI (grN x) es)
  | (es,some u)=>if i=4 then none else goI (grN x) (firstG x) (kidA x) (kidB x) v U (4 - (i+1)) (pathI es (2*grN x+1) u s))=R:=by
  rw[←hgo]
  by_cases h4:i=4
  · subst h4;rfl
  · obtain⟨m,hm⟩:∃ m,4 - i=m+1:=⟨3 - i,by omega⟩
    rw[hm,show 4 - (i+1)=m by omega]
    simp only[h4,if_false]
    rfl
 clear hgo
 generalize seekI (grN x) (firstG x) (kidA x) (kidB x) v U s=q at *
 obtain⟨es,o⟩:=q
 cases o with
 | none =>
   simp only at hgo' h1
   subst hgo'
   rw[resP_none,resS_none] at ks
   simp
   refine callT_step (ks) [] [0,1,2,3,4] (by simp) ?_
   simp[hcl]
   refine aw_loopN [false,false,false,false,false,false,false,false,false,false,false,false,false,true,false,true,false,false,false,false,false,false,false,false,false,false,false,false,false,false,false,false,false,false,false,false,false,false,false,false,false,false,false,false,false,false,false,false,false,false,false,false,false,false,false,false,false,false,false,false,false,false,false,false,false,false,false,false,false,false,false,false,false,false,false,false,false,false,false,false,false,false,false,false,false,false,false,false,false,false,true,true,false,false,false,false,false,false,false,false,false,false,false,false,false,false,false,false,false,false,false,false,false,false,false,false,false,false,false,false,false,false,false,false,false,false,false,false,false,false,false] (fun j:Nat=>j≤grN x) (fun j:Nat=>[(13,.ref 0),(15,cuC (natI (outJ es j))),(90,.d (.int .i64 (grN x:Int))),(91,.d (.int .i64 j))]) (fun j:Nat=>fun sl=>slMp es::cuS (natI (outJ es j))) (fun j:Nat=>grN x - j) 0 ?_ ?_ ?_
   · exact Nat.zero_le _
   · exact⟨[5],by simp[outJ,natI,cuC,cuS]⟩
   rintro I3 S3 μ3 hI3 hS3 hμ3 j hj
   by_cases hlt:j<grN x
   · have hsu:=outJ_succ (es:=es) (j:=j)
     have hol:=outJ_len (es:=es) (j:=j)
     have hon:(natI (outJ es j)).length=(outJ es j).length:=natI_len
     have w1:IntKind.i64.wrap ((j:Int)+1)=(j:Int)+1:=wrap_id (by omega) (by omega)
     have ku:=key_step (a:=(j:Int)) (b:=true) (by omega)
     have kd:=key_step (a:=(j:Int)) (b:=false) (by omega)
     have hgu:=getE_up (es:=es) (a:=j)
     have hgd:=getE_dn (es:=es) (a:=j)
     have hlt1:=decide_eq_true hlt
     cases hup:srcE es (2*j) with
     | none =>
       rw[hup] at hgu
       rw[if_neg (fun h=>srcE_no hup h.1)] at hsu
       cases hdn:srcE es (2*j+1) with
       | none =>
         rw[hdn] at hgd
         by_cases hS:natI (outJ es j)=[]
         · rw[hS,cuC_nil,cuS_nil]
           simp[hlt,hlt1,ku,kd,hgu,hgd,w1]
           exact round_of hI3 hS3 hμ3 (j+1) (by omega) (by omega) ⟨[0],by simp[hsu,hS,cuC_nil,cuS_nil]⟩
         · rw[cuC_row hS,cuS_row hS]
           simp[hlt,hlt1,ku,kd,hgu,hgd,w1]
           exact round_of hI3 hS3 hμ3 (j+1) (by omega) (by omega) ⟨[0,1],by simp[hsu,cuC_row hS,cuS_row hS]⟩
       | some z =>
         rw[hdn] at hgd
         obtain⟨a,b,hab⟩:∃ a b,vlT z=(a,some b):=⟨_,_,rfl⟩
         simp only[Option.map_some,hab] at hgd
         by_cases hS:natI (outJ es j)=[]
         · rw[hS,cuC_nil,cuS_nil]
           simp[hlt,hlt1,ku,kd,hgu,hgd,w1]
           exact round_of hI3 hS3 hμ3 (j+1) (by omega) (by omega) ⟨[0],by simp[hsu,hS,cuC_nil,cuS_nil]⟩
         · rw[cuC_row hS,cuS_row hS]
           simp[hlt,hlt1,ku,kd,hgu,hgd,w1]
           exact round_of hI3 hS3 hμ3 (j+1) (by omega) (by omega) ⟨[0,1],by simp[hsu,cuC_row hS,cuS_row hS]⟩
     | some z2 =>
       rw[hup] at hgu
       obtain⟨c,d,hcd⟩:∃ c d,vlT z2=(c,some d):=⟨_,_,rfl⟩
       simp only[Option.map_some,hcd] at hgu
       cases hdn:srcE es (2*j+1) with
       | some z =>
         rw[hdn] at hgd
         rw[if_neg (fun h=>h.2.1 (srcE_yes hdn))] at hsu
         obtain⟨a,b,hab⟩:∃ a b,vlT z=(a,some b):=⟨_,_,rfl⟩
         simp only[Option.map_some,hab] at hgd
         by_cases hS:natI (outJ es j)=[]
         · rw[hS,cuC_nil,cuS_nil]
           simp[hlt,hlt1,ku,kd,hgu,hgd,w1]
           exact round_of hI3 hS3 hμ3 (j+1) (by omega) (by omega) ⟨[0],by simp[hsu,hS,cuC_nil,cuS_nil]⟩
         · rw[cuC_row hS,cuS_row hS]
           simp[hlt,hlt1,ku,kd,hgu,hgd,w1]
           exact round_of hI3 hS3 hμ3 (j+1) (by omega) (by omega) ⟨[0,1],by simp[hsu,cuC_row hS,cuS_row hS]⟩
       | none =>
         rw[hdn] at hgd
         by_cases hj0:j=0
         · have hS:natI (outJ es j)=[]:=by subst hj0;rfl
           have hj1:((j:Int) != 0)=false:=by simp[hj0]
           rw[if_neg (fun h=>h.2.2 hj0)] at hsu
           rw[hS,cuC_nil,cuS_nil]
           simp[hlt,hlt1,ku,kd,hgu,hgd,w1,hj1]
           exact round_of hI3 hS3 hμ3 (j+1) (by omega) (by omega) ⟨[0],by simp[hsu,hS,cuC_nil,cuS_nil]⟩
         · rw[if_pos ⟨srcE_yes hup,srcE_no hdn,hj0⟩] at hsu
           have hsn:natI (outJ es (j+1))=natI (outJ es j)++[(j:Int)]:=by rw[hsu,natI_snoc]
           have hj1:((j:Int)==0)=false:=by simp;omega
           have hS2:natI (outJ es j)++[(j:Int)]≠[]:=by simp
           by_cases hS:natI (outJ es j)=[]
           · rw[hS,List.nil_append] at hsn hS2
             rw[hS,cuC_nil,cuS_nil]
             simp[hlt,hlt1,ku,kd,hgu,hgd,w1,hj1,hj0]
             refine app_data vt_el_26 rfl (by simp) rfl (by simp) (by simp) (by first | (simp;done)|(simp;omega)) (by simp[flatP,flatD]) ?_
             simp[w1]
             exact round_of hI3 hS3 hμ3 (j+1) (by omega) (by omega) ⟨[0,4],by simp[hsn,cuC_row hS2,cuS_row hS2]⟩
           · rw[cuC_row hS,cuS_row hS]
             simp[hlt,hlt1,ku,kd,hgu,hgd,w1,hj1,hj0]
             refine app_data vt_el_26 rfl (by simp) rfl (by simp) (by simp) (by first | (simp;done)|(simp;omega)) (by simp[flatP,flatD]) ?_
             simp[w1]
             exact round_of hI3 hS3 hμ3 (j+1) (by omega) (by omega) ⟨[0,5],by simp[hsn,cuC_row hS2,cuS_row hS2]⟩
   · obtain rfl:j=grN x:=by omega
     have hout:cutZ (some (outI (grN x) es))=natI (outJ es (grN x)):=rfl
     rw[hout]
     by_cases hS:natI (outJ es (grN x))=[]
     · rw[hS,cuC_nil,cuS_nil]
       simp
     · rw[cuC_row hS,cuS_row hS]
       simp
 | some w =>
   simp only at hgo' h1 h3 hG
   obtain⟨m1,m2⟩:=h3 w rfl
   obtain⟨i0,z0,hi0⟩:=keyE_of m1
   obtain⟨k,rfl⟩:∃ k,w=2*k+1:=⟨w / 2,by unfold stopI at m2;simp at m2;omega⟩
   have kp:=push_con x v (coneL x v) U s es _ (2*k+1) i0 z0 ((i:Int)*801) hx hok h1 hi0 (by omega) hSt
   have hP:=path_stb h1 (2*grN x+1) i0 (2*k+1) z0 s ((i:Int)*801) hi0 (by omega) hSt
   obtain⟨hFl2,-⟩:=hG _ rfl
   rw[vSt_dn] at kp
   rw[resP_some,resS_dn] at ks
   generalize pathI es (2*grN x+1) (2*k+1) s=s2 at *
   by_cases h4:i=4
   · subst h4
     rw[if_pos rfl] at hgo'
     subst hgo'
     simp
     refine callT_step (ks) [] [0,1,2,3,4] (by simp) ?_
     simp
     simp[cutZ,natI]
   · rw[if_neg h4] at hgo'
     have e4:((i:Int)==4)=false:=by simp;omega
     have w1:IntKind.i64.wrap ((i:Int)+1)=(i:Int)+1:=wrap_id (by omega) (by omega)
     simp
     refine callT_step (ks) [] [0,1,2,3,4] (by simp) ?_
     simp[e4]
     refine callT_step (kp) [] [0,1,2,3,4,5] (by simp) ?_
     simp[w1]
     refine round_of hI2 hS2 hμ2 (i+1,s2) ⟨by simp only;omega,hFl2,hP.mono (by simp only;omega),hgo'⟩ (by simp only;omega) ?_
     exact⟨[0,1,2,3,4],by simp⟩
end Go.Proofs.Ytakohcpfjkcfdaa
