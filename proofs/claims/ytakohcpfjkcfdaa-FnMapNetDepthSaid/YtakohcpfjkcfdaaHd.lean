/-
  Searching for a way, by the program. By abstract walks.
  Conditions: those typed in each theorem.
-/
import Derived.Test.YtakohcpfjkcfdaaHc
namespace Go.Proofs.Ytakohcpfjkcfdaa
open Go.RowKit Go.ChangeShapes Go.WideShapes
set_option linter.unusedVariables false
set_option linter.unusedSimpArgs false
attribute [local simp ↓] condG_true condG_false condB_true condB_false
attribute [local simp] AWp_skip AWp_region_t AWp_region_d AWp_region_f still_mk AWp_seq AWp_cond condV_bool condB AWp_block AWp_exit AWp_ret
attribute [local simp] AOps_nil AOp_move AOp_assign AOp_pick AOp_binOp AOp_unOp AOp_convert AOp_len AOp_max AOp_min AOp_indexAddr AOp_load
attribute [local simp] AOp_fieldAddr AOp_field AOp_extract AOp_nilCheck AOp_build AOp_alloc AOp_box AOp_call AOp_store AOp_append AOp_buildSlice nextB_some
attribute [local simp] nextB_none adoptO adoptC AOp_makeSlice AOp_slice AOp_makeFunc AOp_guard guardD_some guardG_bool guardG_undef nextO_some nextS_some
attribute [local simp] nextZ_some nextL_some nextM_some nextT_some sliceO sliceL sliceT partO partV boundV funcO pickO
attribute [local simp] convO lenO maxO minO idxO extO nilO buildO litO litC makeO chunks
attribute [local simp] fillV placeOf thenA inBlockA St.get St.put St.eval ofCell evalT abin_add abin_sub abin_mul
attribute [local simp] abin_quo abin_rem abin_and abin_or abin_xor abin_andNot abin_shl abin_shr abin_shlu abin_eql abin_eqp abin_neq
attribute [local simp] abin_lss abin_leq abin_gtr abin_geq abin_eqlb abin_neqb aun pickV lenV intOf? indexV takeD
attribute [local simp] takeV loadV fieldAddrV fieldV ofX presD presDs pres presAll cellsV V.cell storeV
attribute [local simp] freezeC putAt kill takeC plains plainV scalarV nat_neg keepT sets eSl e1
attribute [local simp] e2 e3 e4 eInt eBool abinS_d abinS_agg abinS nilEq abin_eqb AOp_makeMap AOp_lookup
attribute [local simp] AOp_mapUpdate lookG_some updG_some mapV kyOf vlOf lookV vlV buildA afterCall inst inst1
attribute [local simp] inst1s instD instDs RetA resVs resV gives give1 give1s Le isPin leSlots
attribute [local simp] leS leTmps leV le0 le0s ren ren0 renS ren0s frame enterT afterT_some
attribute [local simp] afterC_some lives Slot.live arrsOk viewV view0 renT rens renSs setAll List.range'_succ RetT
attribute [local simp] RetW joinV leT AOpsE_nil AOpsE_cons AOpsT_nil AOpsT_cons isCallT isFnO callOf callVC_fn condC_true
attribute [local simp] condC_false beginT_mk thenT_mk pickE pickT isT loose namesOf namesV names1 names0 stableN
attribute [local simp] sameAt Op.operands Call.operands
abbrev flowV (x:GrD) (v:Nat):List V:=[.d (.int .i64 x.1),.d (eSl 68 enSeq x.2.1),.d (eSl 56 enAnd x.2.2.1),.d (eSl 3 (e1 eInt) x.2.2.2),.d (.int .i64 v),.ref 1,.ref 2,.ref 3,.ref 4]
abbrev slF (x:GrD) (v:Nat) (cn fr:List Bool) (s:StI):List Slot:=[.var 77 (flowV x v),.arr 4 true (cn.map (e1 eBool)),.arr 4 true (fr.map (e1 eBool)),.arr 3 true (s.1.map (e1 eInt)),.blk (.mp 75 (mpM s.2))]
abbrev slX (es:Es) (q:Nat):List Slot:=[.var 79 [.ref 6],.blk (.mp 79 (mpE es)),.var 100 [.ref 8],.blk (.que 84 2 (quE es q))]
def resP (r:Option Nat):V :=
 match r with
 | none=>.nilp
 | some _=>.ptr 6 0
def resS (r:Option Nat):List Slot :=
 match r with
 | none=>[]
 | some w=>[.var 84 [.d (.int .i64 ((w / 2:Nat):Int)),.d (.bool (decide (w % 2=0)))]]
theorem esI_mp {v:Nat}:mpE (esI v)=[(((v:Int),.inl true),((v:Int),some true))]:=by
 simp only[mpE,esI,List.map_cons,List.map_nil,kyT,vlT]
 rw[decide_eq_true (by omega),decide_eq_true (by omega),show 2*v / 2=v by omega,show ((2*v:Nat):Int) / 2=v by omega]
theorem esI_qu {v:Nat}:quE (esI v) 0=[[.int .i64 (v:Int),.bool true]]:=by
 simp only[quE,esI,List.drop_zero,List.map_cons,List.map_nil,rowT_up]
theorem quE_cons {es:Es} {q:Nat} {p:Nat×Int} (h:es[q]? = some p):quE es q=rowT p.1::quE es (q+1):=by
 obtain⟨hq,rfl⟩:=List.getElem?_eq_some_iff.1 h
 unfold quE
 rw[List.drop_eq_getElem_cons hq,List.map_cons]
def edF (ms:Ms) (k:Nat) (e0:Es):Nat→Es
 | 0=>e0
 | j+1=>if 0<edM ms k j then visG ((2*k:Nat):Int) (edF ms k e0 j) (2*j+1) else edF ms k e0 j
theorem edF_succ {ms:Ms} {k:Nat} {e0:Es} {j:Nat}:edF ms k e0 (j+1)=if 0<edM ms k j then visG ((2*k:Nat):Int) (edF ms k e0 j) (2*j+1) else edF ms k e0 j:=rfl
theorem edF_all {ms:Ms} {k:Nat} {e0:Es}:∀ {n:Nat},edF ms k e0 n=(((List.range n).filter fun p=>decide (0<edM ms k p)).map (2*·+1)).foldl (visG ((2*k:Nat):Int)) e0
 | 0=>rfl
 | n+1=>by
   have ih:=edF_all (ms:=ms) (k:=k) (e0:=e0) (n:=n)
   rw[List.range_succ,List.filter_append,List.map_append,List.foldl_append,←ih,edF_succ]
   by_cases h:0<edM ms k n
   · rw[if_pos h];simp[h]
   · rw[if_neg h];simp[h]
def kidF (L:List Nat) (k:Nat) (e0:Es):Nat→Es
 | 0=>e0
 | j+1=>visG ((2*k+1:Nat):Int) (kidF L k e0 j) (2*(L[j]?).getD 0)
theorem kidF_succ {L:List Nat} {k:Nat} {e0:Es} {j:Nat}:kidF L k e0 (j+1)=visG ((2*k+1:Nat):Int) (kidF L k e0 j) (2*(L[j]?).getD 0):=rfl
theorem kidF_take {L:List Nat} {k:Nat} {e0:Es}:∀ n,n≤L.length→kidF L k e0 n=((L.take n).map (2*·)).foldl (visG ((2*k+1:Nat):Int)) e0
 | 0,_=>rfl
 | n+1,h=>by
   have ih:=kidF_take (L:=L) (k:=k) (e0:=e0) n (by omega)
   have hc:L[n]? = some (L[n]'(by omega)):=List.getElem?_eq_getElem _
   rw[take_snoc' hc,List.map_append,List.foldl_append,←ih,kidF_succ,hc]
   rfl
theorem kidF_all {L:List Nat} {k:Nat} {e0:Es}:kidF L k e0 L.length=(L.map (2*·)).foldl (visG ((2*k+1:Nat):Int)) e0:=by rw[kidF_take _ (Nat.le_refl _),List.take_length]
section
variable {N F:Nat} {ka kb:Nat→Nat} {fr:List Bool} {s:StI} {k q:Nat} {src:Int} {M:Nat} {es0 e0:Es} {next:Nat→List Nat}
theorem nextI_up:nextI N F ka kb fr s (2*k)=(if (getB fr k||decide (getZ s.1 k=0))=true then [2*k+1] else [])++((List.range N).filter fun p=>decide (0<edM s.2 k p)).map (2*·+1):=by
 unfold nextI
 rw[if_pos (by omega),show 2*k / 2=k by omega]
theorem nextI_dn:nextI N F ka kb fr s (2*k+1)=(kidsL F ka kb k).map (2*·)++(if 0<getZ s.1 k then [2*k] else []):=by
 unfold nextI
 rw[if_neg (by omega),show (2*k+1) / 2=k by omega]
theorem edF_next (hk:k<N) (hlt:∀ t∈nextI N F ka kb fr s (2*k),t<M):∀ p,p<N→0<edM s.2 k p→2*p+1<M∧2*p+1∈nextI N F ka kb fr s (2*k):=fun p hp he=>by
 have hm:2*p+1∈nextI N F ka kb fr s (2*k):=by
  rw[nextI_up]
  simp only[List.mem_append,List.mem_map,List.mem_filter,List.mem_range,decide_eq_true_eq]
  exact .inr ⟨p,⟨hp,he⟩,rfl⟩
 exact⟨hlt _ hm,hm⟩
theorem edF_inv {ms:Ms} (hn:∀ p,p<N→0<edM ms k p→2*p+1<M∧2*p+1∈next (2*k)):∀ {j:Nat},j≤N→InvG next M es0 e0→es0.length≤e0.length→e0[q]? = some (2*k,src) →
 InvG next M es0 (edF ms k e0 j)∧e0.length≤(edF ms k e0 j).length∧(edF ms k e0 j)[q]? = some (2*k,src)
 | 0,_,h,h0,hq=>⟨h,Nat.le_refl _,hq⟩
 | j+1,hj,h,h0,hq=>by
   obtain⟨a1,a2,a3⟩:=edF_inv hn (j:=j) (by omega) h h0 hq
   unfold edF
   split
   · rename_i he
     obtain⟨b1,-,b3,b4⟩:=visG_facts a1 (by omega) a3 (hn j (by omega) he).1 (hn j (by omega) he).2
     exact⟨b1,Nat.le_trans a2 b4,b3 _ _ a3⟩
   · exact⟨a1,a2,a3⟩
theorem kidF_next (hlt:∀ t∈nextI N F ka kb fr s (2*k+1),t<M):∀ c∈kidsL F ka kb k,2*c<M∧2*c∈nextI N F ka kb fr s (2*k+1):=fun c hc=>by
 have hm:2*c∈nextI N F ka kb fr s (2*k+1):=by
  rw[nextI_dn]
  exact List.mem_append_left _ (List.mem_map.2 ⟨c,hc,rfl⟩)
 exact⟨hlt _ hm,hm⟩
theorem kidF_inv {L:List Nat} (hn:∀ c∈L,2*c<M∧2*c∈next (2*k+1)):∀ {j:Nat},j≤L.length→InvG next M es0 e0→es0.length≤e0.length→e0[q]? = some (2*k+1,src) →
 InvG next M es0 (kidF L k e0 j)∧e0.length≤(kidF L k e0 j).length∧(kidF L k e0 j)[q]? = some (2*k+1,src)
 | 0,_,h,h0,hq=>⟨h,Nat.le_refl _,hq⟩
 | j+1,hj,h,h0,hq=>by
   obtain⟨a1,a2,a3⟩:=kidF_inv hn (j:=j) (by omega) h h0 hq
   have hc:L[j]? = some (L[j]'(by omega)):=List.getElem?_eq_getElem _
   have hm:=hn _ (List.getElem_mem (show j<L.length by omega))
   unfold kidF
   rw[hc,Option.getD_some]
   obtain⟨b1,-,b3,b4⟩:=visG_facts a1 (by omega) a3 hm.1 hm.2
   exact⟨b1,Nat.le_trans a2 b4,b3 _ _ a3⟩
theorem kidsL_len:(kidsL F ka kb k).length≤2:=by
 unfold kidsL
 split
 · simp
 · split<;>simp
end
set_option maxRecDepth 100000 in
set_option maxHeartbeats 4000000 in
theorem search_con (x:GrD) (v:Nat) (cn fr:List Bool) (s:StI) (R:Es×Option Nat) (hx:fitGr 1048576 x) (hok:netOkB x=true) (hcn:cn.length=grN x) (hfr:fr.length=grN x) (hN:NetI (grN x) (firstG x) (kidA x) (kidB x) v fr) (hF:FlI (grN x) (firstG x) (kidA x) (kidB x) fr s)
 (hR:seekI (grN x) (firstG x) (kidA x) (kidB x) v fr s=R) :
 ConT Try.prog 59 [.ptr 0 0] (slF x v cn fr s) (.tup [.ref 5,resP R.2]) (slF x v cn fr s++.blk (.mp 79 (mpE R.1))::resS R.2):=by
 obtain⟨⟨n1,n2,n3,n4,n5,n6⟩,-,-,-⟩:=netOk_of hok
 have hFF:(firstG x:Int)=1+x.1+x.2.1.length:=by unfold firstG;omega
 have hNN:=grN_eq x
 have hNs:grN x≤400:=by unfold firstG at hNN;omega
 have hvN:=hN.vN
 have hk0:=key_step (a:=(v:Int)) (b:=true) (by omega)
 have hs0:setM [] ((v:Int),.inl true) ((v:Int),some true)=mpE (esI v):=by rw[esI_mp];rfl
 have hlt:∀ u,u<2*grN x→∀ t∈nextI (grN x) (firstG x) (kidA x) (kidB x) fr s u,t<2*grN x:=fun u hu t ht=>arc_lt hN hF hu (next_arc (by omega) ht)
 unfold seekI at hR
 refine conT_of (by kernel_rfl) Try.func59 rfl rfl rfl (by simp[laters,Later]) (by simp[lives,Slot.live]) ?_
 simp[hk0,hs0]
 refine aw_loopN [true,false,false,false,true,false,true,true,false,false,false,false,false,false,false,false,false,false,false,false,false,false,false,false,false,false,false,false,false,false,false,false,false,false,false,false,false,false,false,false,false,false,false,false,false,false,false,false,false,false,false,false,false,false,false,false,false,false,false,false,false,false,false,false,false,false,false,false,false,false,false,false,false,false,false,false,false,false,false,false,false,false,false,false,false,false,false,false,false,false,false,false,false,false,false,false,false,false,false,false,false,false,false,false,false,false,false,false,false,false,false,false,false,false,false,false,false,false,false,false,false,false,false,false,false,false,false,false,false,false,false,false,false,false,false,false,false,false,false] (fun i:Nat×Nat×Es=>i.1+i.2.1=2*grN x+1∧i.2.1≤i.2.2.length∧InvG (nextI (grN x) (firstG x) (kidA x) (kidB x) fr s) (2*grN x) (esI v) i.2.2∧(esI v).length≤i.2.2.length∧runG (nextI (grN x) (firstG x) (kidA x) (kidB x) fr s) (stopI (firstG x)) i.1 i.2.1 i.2.2=R) (fun i:Nat×Nat×Es=>[(4,.ptr 5 0),(6,.ptr 7 0),(7,.fn 81 [.ptr 5 0,.ptr 7 0])]) (fun i:Nat×Nat×Es=>fun sl=>sl.take 5++slX i.2.2 i.2.1) (fun i:Nat×Nat×Es=>i.1) (2*grN x+1,0,esI v) ?_ ?_ ?_
 · exact⟨rfl,Nat.zero_le _,esI_inv hN _,Nat.le_refl _,hR⟩
 · refine⟨[0,1,2,3,4,6,5,9,8],?_⟩
   simp[esI_qu,flatD]
   exact⟨_,_,_,⟨rfl,rfl,rfl⟩,⟨rfl,rfl⟩,by simp,by simp⟩
 rintro I S μ hI hS hμ ⟨f,q,es⟩ ⟨hfq,hq,hinv,hes,hrun⟩
 simp only at hfq hq hinv hes hrun
 have hel:=hinv.len
 cases f with
 | zero=>omega
 | succ f =>
 unfold runG at hrun
 cases hp:es[q]? with
 | none =>
   rw[hp] at hrun
   simp only at hrun
   subst hrun
   have hQ:quE es q=[]:=by
    have:=List.getElem?_eq_none_iff.1 hp
    unfold quE
    rw[List.drop_eq_nil_of_le this]
    rfl
   simp[hQ]
   exact⟨[0,1,2,3,4,6],by simp[resS,resP]⟩
 | some p =>
 obtain⟨t,src⟩:=p
 rw[hp] at hrun
 simp only at hrun
 have hQ:=quE_cons hp
 have htl:=hinv.lt _ (keyE_mem hp)
 simp only at htl hQ
 obtain⟨k,rfl|rfl⟩:∃ k,t=2*k∨t=2*k+1:=⟨t / 2,by omega⟩
 · rw[rowT_up] at hQ
   have hk:k<grN x:=by omega
   have hql:=(List.getElem?_eq_some_iff.1 hp).1
   have hfk:fr[k]? = some (getB fr k):=getB_at (by omega)
   have hik:s.1[k]? = some (getZ s.1 k):=by unfold getZ;rw[List.getElem?_eq_getElem (by rw[hF.len];exact hk)];rfl
   have hst:stopI (firstG x) (2*k)=false:=by unfold stopI;simp
   rw[hst,if_neg (by simp),nextI_up,List.foldl_append] at hrun
   cases hb:getB fr k with
   | true =>
     rw[hb] at hfk
     have hcond:(getB fr k||decide (getZ s.1 k=0))=true:=by rw[hb];rfl
     rw[hcond,if_pos rfl,List.foldl_cons,List.foldl_nil] at hrun
     by_cases hm:2*k+1∈keyE es
     · have hE:visG ((2*k:Nat):Int) es (2*k+1)=es:=by simp[visG,hm]
       rw[hE] at hrun
       have u1:=hinv
       have u3:=hp
       have hue:es.length≤es.length:=Nat.le_refl _
       have kv:=visit_dn_old (q:=q+1) (a:=k) (c:=k) (by omega) hm
       simp[hQ,hfk,AOp_callv,callV_fn]
       refine callT_step (kv) [] [5,6,7,10] (by simp) ?_
       simp
       refine aw_loopN [true,false,false,false,true,false,true,true,true,true,false,false,false,false,false,false,false,false,false,false,false,false,false,false,false,false,false,false,false,false,false,false,false,false,false,false,false,false,false,false,false,false,false,false,false,false,false,false,false,false,false,false,false,false,false,false,false,false,false,false,false,false,false,true,true,false,false,false,false,false,false,false,false,false,false,false,false,false,false,false,false,false,false,false,false,false,false,false,false,false,false,false,false,false,false,false,false,false,false,false,false,false,false,false,false,false,false,false,false,false,false,false,false,false,false,false,false,false,false,false,false,false,false,false,false,false,false,false,false,false,false,false,false,false,false,false,false,false,false] (fun j:Nat=>j≤grN x) (fun j:Nat=>[(64,.d (.int .i64 j))]) (fun j:Nat=>fun sl=>sl.take 5++slX (edF s.2 k (es) j) (q+1)++[.var 84 [.d (.int .i64 k),.d (.bool true)]]) (fun j:Nat=>grN x - j) 0 ?_ ?_ ?_
       · exact Nat.zero_le _
       · exact⟨[0,1,2,3,4,5,6,7,10,9],by simp[edF]⟩
       rintro I2 S2 μ2 hI2 hS2 hμ2 j hj
       have hnx:=edF_next (M:=2*grN x) (N:=grN x) (F:=firstG x) (ka:=kidA x) (kb:=kidB x) (fr:=fr) (s:=s) (k:=k) hk (hlt _ (by omega))
       obtain⟨v1,v2,v3⟩:=edF_inv (j:=j) hnx hj u1 (by omega) u3
       have hlen2:=v1.len
       have hfin:=edF_all (ms:=s.2) (k:=k) (e0:=es) (n:=grN x)
       by_cases hlt2:j<grN x
       · have hlt3:j<cn.length:=by omega
         have hz:=mpM_val (ms:=s.2) (c:=k) (p:=j)
         have hkp:=key_pair (a:=(k:Int)) (b:=(j:Int)) (by omega) (by omega)
         have w2:IntKind.i64.wrap ((j:Int)+1)=(j:Int)+1:=wrap_id (by omega) (by omega)
         by_cases he:0<edM s.2 k j
         · by_cases hm:2*j+1∈keyE (edF s.2 k (es) j)
           · have hn:edF s.2 k (es) (j+1)=edF s.2 k (es) j:=by simp[edF,he,visG,hm]
             have kv:=visit_dn_old (q:=q+1) (a:=j) (c:=k) (by omega) hm
             simp[hlt3,decide_eq_true hlt3,hkp,hz,he,AOp_callv,callV_fn]
             refine callT_step (kv) [] [5,6,7,8] (by simp) ?_
             simp[w2]
             exact round_of hI2 hS2 hμ2 (j+1) (by omega) (by omega) ⟨[0,1,2,3,4,5,6,7,8,9],by simp[hn]⟩
           · have hn:edF s.2 k (es) (j+1)=edF s.2 k (es) j++[(2*j+1,((2*k:Nat):Int))]:=by simp[edF,he,visG,hm]
             have kv:=visit_dn_new (q:=q+1) (a:=j) (c:=k) (by omega) hm (by omega) (by omega)
             rw[←hn] at kv
             simp[hlt3,decide_eq_true hlt3,hkp,hz,he,AOp_callv,callV_fn]
             refine callT_step (kv) [] [5,6,7,8] (by simp) ?_
             simp[w2]
             exact round_of hI2 hS2 hμ2 (j+1) (by omega) (by omega) ⟨[0,1,2,3,4,5,6,7,10,9],by simp⟩
         · have hn:edF s.2 k (es) (j+1)=edF s.2 k (es) j:=by simp[edF,he]
           simp[hlt3,decide_eq_true hlt3,hkp,hz,he,w2]
           exact round_of hI2 hS2 hμ2 (j+1) (by omega) (by omega) ⟨[0,1,2,3,4,5,6,7,8,9],by simp[hn]⟩
       · have hj':j=grN x:=by omega
         have hlt3:¬ j<cn.length:=by omega
         subst hj'
         simp[hlt3,decide_eq_false hlt3]
         exact round_of hI hS hμ (f,q+1,edF s.2 k (es) (grN x)) ⟨by simp only;omega,by simp only;omega,v1,by simp only;omega,by simp only;rw[hfin];exact hrun⟩ (by simp) ⟨[0,1,2,3,4,5,6,7,8],by simp⟩
     · have hE:visG ((2*k:Nat):Int) es (2*k+1)=es++[(2*k+1,((2*k:Nat):Int))]:=by simp[visG,hm]
       obtain⟨u1,-,u3',u4⟩:=visG_facts hinv hes hp (t:=2*k+1) (by omega) (by rw[nextI_up,hcond];simp)
       have u3:=u3' _ _ hp
       rw[hE] at hrun u1 u3 u4
       have kv:=visit_dn_new (q:=q+1) (a:=k) (c:=k) (by omega) hm (by have:=(List.getElem?_eq_some_iff.1 hp).1;omega) (by omega)
       obtain⟨es0,hes0⟩:∃ es0,es0=es++[(2*k+1,((2*k:Nat):Int))]:=⟨_,rfl⟩
       rw[←hes0] at hrun u1 u3 u4 kv
       simp[hQ,hfk,AOp_callv,callV_fn]
       refine callT_step (kv) [] [5,6,7,10] (by simp) ?_
       simp
       refine aw_loopN [true,false,false,false,true,false,true,true,true,true,false,false,false,false,false,false,false,false,false,false,false,false,false,false,false,false,false,false,false,false,false,false,false,false,false,false,false,false,false,false,false,false,false,false,false,false,false,false,false,false,false,false,false,false,false,false,false,false,false,false,false,false,false,true,true,false,false,false,false,false,false,false,false,false,false,false,false,false,false,false,false,false,false,false,false,false,false,false,false,false,false,false,false,false,false,false,false,false,false,false,false,false,false,false,false,false,false,false,false,false,false,false,false,false,false,false,false,false,false,false,false,false,false,false,false,false,false,false,false,false,false,false,false,false,false,false,false,false,false] (fun j:Nat=>j≤grN x) (fun j:Nat=>[(64,.d (.int .i64 j))]) (fun j:Nat=>fun sl=>sl.take 5++slX (edF s.2 k (es0) j) (q+1)++[.var 84 [.d (.int .i64 k),.d (.bool true)]]) (fun j:Nat=>grN x - j) 0 ?_ ?_ ?_
       · exact Nat.zero_le _
       · exact⟨[0,1,2,3,4,5,6,7,11,9],by simp[edF]⟩
       rintro I2 S2 μ2 hI2 hS2 hμ2 j hj
       have hnx:=edF_next (M:=2*grN x) (N:=grN x) (F:=firstG x) (ka:=kidA x) (kb:=kidB x) (fr:=fr) (s:=s) (k:=k) hk (hlt _ (by omega))
       obtain⟨v1,v2,v3⟩:=edF_inv (j:=j) hnx hj u1 (by omega) u3
       have hlen2:=v1.len
       have hfin:=edF_all (ms:=s.2) (k:=k) (e0:=es0) (n:=grN x)
       by_cases hlt2:j<grN x
       · have hlt3:j<cn.length:=by omega
         have hz:=mpM_val (ms:=s.2) (c:=k) (p:=j)
         have hkp:=key_pair (a:=(k:Int)) (b:=(j:Int)) (by omega) (by omega)
         have w2:IntKind.i64.wrap ((j:Int)+1)=(j:Int)+1:=wrap_id (by omega) (by omega)
         by_cases he:0<edM s.2 k j
         · by_cases hm:2*j+1∈keyE (edF s.2 k (es0) j)
           · have hn:edF s.2 k (es0) (j+1)=edF s.2 k (es0) j:=by simp[edF,he,visG,hm]
             have kv:=visit_dn_old (q:=q+1) (a:=j) (c:=k) (by omega) hm
             simp[hlt3,decide_eq_true hlt3,hkp,hz,he,AOp_callv,callV_fn]
             refine callT_step (kv) [] [5,6,7,8] (by simp) ?_
             simp[w2]
             exact round_of hI2 hS2 hμ2 (j+1) (by omega) (by omega) ⟨[0,1,2,3,4,5,6,7,8,9],by simp[hn]⟩
           · have hn:edF s.2 k (es0) (j+1)=edF s.2 k (es0) j++[(2*j+1,((2*k:Nat):Int))]:=by simp[edF,he,visG,hm]
             have kv:=visit_dn_new (q:=q+1) (a:=j) (c:=k) (by omega) hm (by omega) (by omega)
             rw[←hn] at kv
             simp[hlt3,decide_eq_true hlt3,hkp,hz,he,AOp_callv,callV_fn]
             refine callT_step (kv) [] [5,6,7,8] (by simp) ?_
             simp[w2]
             exact round_of hI2 hS2 hμ2 (j+1) (by omega) (by omega) ⟨[0,1,2,3,4,5,6,7,10,9],by simp⟩
         · have hn:edF s.2 k (es0) (j+1)=edF s.2 k (es0) j:=by simp[edF,he]
           simp[hlt3,decide_eq_true hlt3,hkp,hz,he,w2]
           exact round_of hI2 hS2 hμ2 (j+1) (by omega) (by omega) ⟨[0,1,2,3,4,5,6,7,8,9],by simp[hn]⟩
       · have hj':j=grN x:=by omega
         have hlt3:¬ j<cn.length:=by omega
         subst hj'
         simp[hlt3,decide_eq_false hlt3]
         exact round_of hI hS hμ (f,q+1,edF s.2 k (es0) (grN x)) ⟨by simp only;omega,by simp only;omega,v1,by simp only;omega,by simp only;rw[hfin];exact hrun⟩ (by simp) ⟨[0,1,2,3,4,5,6,7,8],by simp⟩
   | false =>
     rw[hb] at hfk
     by_cases hz0:getZ s.1 k=0
     · have hcond:(getB fr k||decide (getZ s.1 k=0))=true:=by rw[hb,hz0];rfl
       rw[hcond,if_pos rfl,List.foldl_cons,List.foldl_nil] at hrun
       rw[hz0] at hik
       by_cases hm:2*k+1∈keyE es
       · have hE:visG ((2*k:Nat):Int) es (2*k+1)=es:=by simp[visG,hm]
         rw[hE] at hrun
         have u1:=hinv
         have u3:=hp
         have hue:es.length≤es.length:=Nat.le_refl _
         have kv:=visit_dn_old (q:=q+1) (a:=k) (c:=k) (by omega) hm
         simp[hQ,hfk,hik,AOp_callv,callV_fn]
         refine callT_step (kv) [] [5,6,7,10] (by simp) ?_
         simp
         refine aw_loopN [true,false,false,false,true,false,true,true,true,true,false,false,false,false,false,false,false,false,false,false,false,false,false,false,false,false,false,false,false,false,false,false,false,false,false,false,false,false,false,false,false,false,false,false,false,false,false,false,false,false,false,false,false,false,false,false,false,false,false,false,false,false,false,true,true,false,false,false,false,false,false,false,false,false,false,false,false,false,false,false,false,false,false,false,false,false,false,false,false,false,false,false,false,false,false,false,false,false,false,false,false,false,false,false,false,false,false,false,false,false,false,false,false,false,false,false,false,false,false,false,false,false,false,false,false,false,false,false,false,false,false,false,false,false,false,false,false,false,false] (fun j:Nat=>j≤grN x) (fun j:Nat=>[(64,.d (.int .i64 j))]) (fun j:Nat=>fun sl=>sl.take 5++slX (edF s.2 k (es) j) (q+1)++[.var 84 [.d (.int .i64 k),.d (.bool true)]]) (fun j:Nat=>grN x - j) 0 ?_ ?_ ?_
         · exact Nat.zero_le _
         · exact⟨[0,1,2,3,4,5,6,7,10,9],by simp[edF]⟩
         rintro I2 S2 μ2 hI2 hS2 hμ2 j hj
         have hnx:=edF_next (M:=2*grN x) (N:=grN x) (F:=firstG x) (ka:=kidA x) (kb:=kidB x) (fr:=fr) (s:=s) (k:=k) hk (hlt _ (by omega))
         obtain⟨v1,v2,v3⟩:=edF_inv (j:=j) hnx hj u1 (by omega) u3
         have hlen2:=v1.len
         have hfin:=edF_all (ms:=s.2) (k:=k) (e0:=es) (n:=grN x)
         by_cases hlt2:j<grN x
         · have hlt3:j<cn.length:=by omega
           have hz:=mpM_val (ms:=s.2) (c:=k) (p:=j)
           have hkp:=key_pair (a:=(k:Int)) (b:=(j:Int)) (by omega) (by omega)
           have w2:IntKind.i64.wrap ((j:Int)+1)=(j:Int)+1:=wrap_id (by omega) (by omega)
           by_cases he:0<edM s.2 k j
           · by_cases hm:2*j+1∈keyE (edF s.2 k (es) j)
             · have hn:edF s.2 k (es) (j+1)=edF s.2 k (es) j:=by simp[edF,he,visG,hm]
               have kv:=visit_dn_old (q:=q+1) (a:=j) (c:=k) (by omega) hm
               simp[hlt3,decide_eq_true hlt3,hkp,hz,he,AOp_callv,callV_fn]
               refine callT_step (kv) [] [5,6,7,8] (by simp) ?_
               simp[w2]
               exact round_of hI2 hS2 hμ2 (j+1) (by omega) (by omega) ⟨[0,1,2,3,4,5,6,7,8,9],by simp[hn]⟩
             · have hn:edF s.2 k (es) (j+1)=edF s.2 k (es) j++[(2*j+1,((2*k:Nat):Int))]:=by simp[edF,he,visG,hm]
               have kv:=visit_dn_new (q:=q+1) (a:=j) (c:=k) (by omega) hm (by omega) (by omega)
               rw[←hn] at kv
               simp[hlt3,decide_eq_true hlt3,hkp,hz,he,AOp_callv,callV_fn]
               refine callT_step (kv) [] [5,6,7,8] (by simp) ?_
               simp[w2]
               exact round_of hI2 hS2 hμ2 (j+1) (by omega) (by omega) ⟨[0,1,2,3,4,5,6,7,10,9],by simp⟩
           · have hn:edF s.2 k (es) (j+1)=edF s.2 k (es) j:=by simp[edF,he]
             simp[hlt3,decide_eq_true hlt3,hkp,hz,he,w2]
             exact round_of hI2 hS2 hμ2 (j+1) (by omega) (by omega) ⟨[0,1,2,3,4,5,6,7,8,9],by simp[hn]⟩
         · have hj':j=grN x:=by omega
           have hlt3:¬ j<cn.length:=by omega
           subst hj'
           simp[hlt3,decide_eq_false hlt3]
           exact round_of hI hS hμ (f,q+1,edF s.2 k (es) (grN x)) ⟨by simp only;omega,by simp only;omega,v1,by simp only;omega,by simp only;rw[hfin];exact hrun⟩ (by simp) ⟨[0,1,2,3,4,5,6,7,8],by simp⟩
       · have hE:visG ((2*k:Nat):Int) es (2*k+1)=es++[(2*k+1,((2*k:Nat):Int))]:=by simp[visG,hm]
         obtain⟨u1,-,u3',u4⟩:=visG_facts hinv hes hp (t:=2*k+1) (by omega) (by rw[nextI_up,hcond];simp)
         have u3:=u3' _ _ hp
         rw[hE] at hrun u1 u3 u4
         have kv:=visit_dn_new (q:=q+1) (a:=k) (c:=k) (by omega) hm (by have:=(List.getElem?_eq_some_iff.1 hp).1;omega) (by omega)
         obtain⟨es0,hes0⟩:∃ es0,es0=es++[(2*k+1,((2*k:Nat):Int))]:=⟨_,rfl⟩
         rw[←hes0] at hrun u1 u3 u4 kv
         simp[hQ,hfk,hik,AOp_callv,callV_fn]
         refine callT_step (kv) [] [5,6,7,10] (by simp) ?_
         simp
         refine aw_loopN [true,false,false,false,true,false,true,true,true,true,false,false,false,false,false,false,false,false,false,false,false,false,false,false,false,false,false,false,false,false,false,false,false,false,false,false,false,false,false,false,false,false,false,false,false,false,false,false,false,false,false,false,false,false,false,false,false,false,false,false,false,false,false,true,true,false,false,false,false,false,false,false,false,false,false,false,false,false,false,false,false,false,false,false,false,false,false,false,false,false,false,false,false,false,false,false,false,false,false,false,false,false,false,false,false,false,false,false,false,false,false,false,false,false,false,false,false,false,false,false,false,false,false,false,false,false,false,false,false,false,false,false,false,false,false,false,false,false,false] (fun j:Nat=>j≤grN x) (fun j:Nat=>[(64,.d (.int .i64 j))]) (fun j:Nat=>fun sl=>sl.take 5++slX (edF s.2 k (es0) j) (q+1)++[.var 84 [.d (.int .i64 k),.d (.bool true)]]) (fun j:Nat=>grN x - j) 0 ?_ ?_ ?_
         · exact Nat.zero_le _
         · exact⟨[0,1,2,3,4,5,6,7,11,9],by simp[edF]⟩
         rintro I2 S2 μ2 hI2 hS2 hμ2 j hj
         have hnx:=edF_next (M:=2*grN x) (N:=grN x) (F:=firstG x) (ka:=kidA x) (kb:=kidB x) (fr:=fr) (s:=s) (k:=k) hk (hlt _ (by omega))
         obtain⟨v1,v2,v3⟩:=edF_inv (j:=j) hnx hj u1 (by omega) u3
         have hlen2:=v1.len
         have hfin:=edF_all (ms:=s.2) (k:=k) (e0:=es0) (n:=grN x)
         by_cases hlt2:j<grN x
         · have hlt3:j<cn.length:=by omega
           have hz:=mpM_val (ms:=s.2) (c:=k) (p:=j)
           have hkp:=key_pair (a:=(k:Int)) (b:=(j:Int)) (by omega) (by omega)
           have w2:IntKind.i64.wrap ((j:Int)+1)=(j:Int)+1:=wrap_id (by omega) (by omega)
           by_cases he:0<edM s.2 k j
           · by_cases hm:2*j+1∈keyE (edF s.2 k (es0) j)
             · have hn:edF s.2 k (es0) (j+1)=edF s.2 k (es0) j:=by simp[edF,he,visG,hm]
               have kv:=visit_dn_old (q:=q+1) (a:=j) (c:=k) (by omega) hm
               simp[hlt3,decide_eq_true hlt3,hkp,hz,he,AOp_callv,callV_fn]
               refine callT_step (kv) [] [5,6,7,8] (by simp) ?_
               simp[w2]
               exact round_of hI2 hS2 hμ2 (j+1) (by omega) (by omega) ⟨[0,1,2,3,4,5,6,7,8,9],by simp[hn]⟩
             · have hn:edF s.2 k (es0) (j+1)=edF s.2 k (es0) j++[(2*j+1,((2*k:Nat):Int))]:=by simp[edF,he,visG,hm]
               have kv:=visit_dn_new (q:=q+1) (a:=j) (c:=k) (by omega) hm (by omega) (by omega)
               rw[←hn] at kv
               simp[hlt3,decide_eq_true hlt3,hkp,hz,he,AOp_callv,callV_fn]
               refine callT_step (kv) [] [5,6,7,8] (by simp) ?_
               simp[w2]
               exact round_of hI2 hS2 hμ2 (j+1) (by omega) (by omega) ⟨[0,1,2,3,4,5,6,7,10,9],by simp⟩
           · have hn:edF s.2 k (es0) (j+1)=edF s.2 k (es0) j:=by simp[edF,he]
             simp[hlt3,decide_eq_true hlt3,hkp,hz,he,w2]
             exact round_of hI2 hS2 hμ2 (j+1) (by omega) (by omega) ⟨[0,1,2,3,4,5,6,7,8,9],by simp[hn]⟩
         · have hj':j=grN x:=by omega
           have hlt3:¬ j<cn.length:=by omega
           subst hj'
           simp[hlt3,decide_eq_false hlt3]
           exact round_of hI hS hμ (f,q+1,edF s.2 k (es0) (grN x)) ⟨by simp only;omega,by simp only;omega,v1,by simp only;omega,by simp only;rw[hfin];exact hrun⟩ (by simp) ⟨[0,1,2,3,4,5,6,7,8],by simp⟩
     · have hcond:(getB fr k||decide (getZ s.1 k=0))=false:=by rw[hb,decide_eq_false hz0];rfl
       rw[hcond,if_neg (by simp),List.foldl_nil] at hrun
       have u1:=hinv
       have u3:=hp
       simp[hQ,hfk,hik,hz0]
       refine aw_loopN [true,false,false,false,true,false,true,true,true,true,false,false,false,false,false,false,false,false,false,false,false,false,false,false,false,false,false,false,false,false,false,false,false,false,false,false,false,false,false,false,false,false,false,false,false,false,false,false,false,false,false,false,false,false,false,false,false,false,false,false,false,false,false,true,true,false,false,false,false,false,false,false,false,false,false,false,false,false,false,false,false,false,false,false,false,false,false,false,false,false,false,false,false,false,false,false,false,false,false,false,false,false,false,false,false,false,false,false,false,false,false,false,false,false,false,false,false,false,false,false,false,false,false,false,false,false,false,false,false,false,false,false,false,false,false,false,false,false,false] (fun j:Nat=>j≤grN x) (fun j:Nat=>[(64,.d (.int .i64 j))]) (fun j:Nat=>fun sl=>sl.take 5++slX (edF s.2 k (es) j) (q+1)++[.var 84 [.d (.int .i64 k),.d (.bool true)]]) (fun j:Nat=>grN x - j) 0 ?_ ?_ ?_
       · exact Nat.zero_le _
       · exact⟨[0,1,2,3,4,5,6,7,10,9],by simp[edF]⟩
       rintro I2 S2 μ2 hI2 hS2 hμ2 j hj
       have hnx:=edF_next (M:=2*grN x) (N:=grN x) (F:=firstG x) (ka:=kidA x) (kb:=kidB x) (fr:=fr) (s:=s) (k:=k) hk (hlt _ (by omega))
       obtain⟨v1,v2,v3⟩:=edF_inv (j:=j) hnx hj u1 (by omega) u3
       have hlen2:=v1.len
       have hfin:=edF_all (ms:=s.2) (k:=k) (e0:=es) (n:=grN x)
       by_cases hlt2:j<grN x
       · have hlt3:j<cn.length:=by omega
         have hz:=mpM_val (ms:=s.2) (c:=k) (p:=j)
         have hkp:=key_pair (a:=(k:Int)) (b:=(j:Int)) (by omega) (by omega)
         have w2:IntKind.i64.wrap ((j:Int)+1)=(j:Int)+1:=wrap_id (by omega) (by omega)
         by_cases he:0<edM s.2 k j
         · by_cases hm:2*j+1∈keyE (edF s.2 k (es) j)
           · have hn:edF s.2 k (es) (j+1)=edF s.2 k (es) j:=by simp[edF,he,visG,hm]
             have kv:=visit_dn_old (q:=q+1) (a:=j) (c:=k) (by omega) hm
             simp[hlt3,decide_eq_true hlt3,hkp,hz,he,AOp_callv,callV_fn]
             refine callT_step (kv) [] [5,6,7,8] (by simp) ?_
             simp[w2]
             exact round_of hI2 hS2 hμ2 (j+1) (by omega) (by omega) ⟨[0,1,2,3,4,5,6,7,8,9],by simp[hn]⟩
           · have hn:edF s.2 k (es) (j+1)=edF s.2 k (es) j++[(2*j+1,((2*k:Nat):Int))]:=by simp[edF,he,visG,hm]
             have kv:=visit_dn_new (q:=q+1) (a:=j) (c:=k) (by omega) hm (by omega) (by omega)
             rw[←hn] at kv
             simp[hlt3,decide_eq_true hlt3,hkp,hz,he,AOp_callv,callV_fn]
             refine callT_step (kv) [] [5,6,7,8] (by simp) ?_
             simp[w2]
             exact round_of hI2 hS2 hμ2 (j+1) (by omega) (by omega) ⟨[0,1,2,3,4,5,6,7,10,9],by simp⟩
         · have hn:edF s.2 k (es) (j+1)=edF s.2 k (es) j:=by simp[edF,he]
           simp[hlt3,decide_eq_true hlt3,hkp,hz,he,w2]
           exact round_of hI2 hS2 hμ2 (j+1) (by omega) (by omega) ⟨[0,1,2,3,4,5,6,7,8,9],by simp[hn]⟩
       · have hj':j=grN x:=by omega
         have hlt3:¬ j<cn.length:=by omega
         subst hj'
         simp[hlt3,decide_eq_false hlt3]
         exact round_of hI hS hμ (f,q+1,edF s.2 k (es) (grN x)) ⟨by simp only;omega,by simp only;omega,v1,by simp only;omega,by simp only;rw[hfin];exact hrun⟩ (by simp) ⟨[0,1,2,3,4,5,6,7,8],by simp⟩
 · rw[rowT_dn] at hQ
   have hk:k<grN x:=by omega
   have hql:=(List.getElem?_eq_some_iff.1 hp).1
   have hfk:fr[k]? = some (getB fr k):=getB_at (by omega)
   have hik:s.1[k]? = some (getZ s.1 k):=by unfold getZ;rw[List.getElem?_eq_getElem (by rw[hF.len];exact hk)];rfl
   have kL:=isLeaf_con x k ⟨n1,n2⟩ n3
   have hst:stopI (firstG x) (2*k+1)=(decide (0<k)&&decide (k<firstG x)):=by unfold stopI;rw[decide_eq_true (by omega),Bool.true_and,show (2*k+1) / 2=k by omega]
   rw[hst] at hrun
   generalize (decide (0<k)&&decide (k<firstG x))=bs at *
   simp[hQ]
   refine call_step (kL) ?_
   simp[enGr]
   cases bs with
   | true =>
     rw[if_pos rfl] at hrun
     subst hrun
     have hres:resS (some (2*k+1))=[.var 84 [.d (.int .i64 k),.d (.bool false)]]:=by
      show [Slot.var _ [.d (.int .i64 (((2*k+1) / 2:Nat):Int)),.d (.bool (decide ((2*k+1) % 2=0)))]]=_
      rw[decide_eq_false (by omega),show (2*k+1) / 2=k by omega]
     simp
     exact⟨[0,1,2,3,4,6,9],by simp[hres,resP]⟩
   | false =>
     rw[if_neg (by simp),nextI_dn,List.foldl_append] at hrun
     simp
     refine call_step (kidsOf_con x k hx hok hk) ?_
     simp[enGr]
     refine aw_loopN [true,false,false,false,true,false,true,true,true,true,false,false,false,false,false,false,false,false,false,false,false,false,false,false,false,false,false,false,false,false,false,false,false,false,false,false,false,false,false,false,false,false,false,false,false,false,false,false,false,false,false,false,false,false,false,false,false,false,false,false,false,false,false,false,false,false,false,false,false,false,false,false,false,false,false,false,false,false,false,false,false,false,false,false,false,false,false,false,false,false,false,false,false,false,true,true,true,false,false,false,false,false,false,false,false,false,false,false,false,false,false,false,false,false,false,false,false,false,false,false,false,false,false,false,false,false,false,false,false,false,false,false,false,false,false,false,false,false,false] (fun j:Nat=>j≤(kidsL (firstG x) (kidA x) (kidB x) k).length) (fun j:Nat=>[(94,.d (eSl 3 (e1 eInt) ((kidsL (firstG x) (kidA x) (kidB x) k).map fun c:Nat=>(c:Int)))),(96,.d (.int .i64 j))]) (fun j:Nat=>fun sl=>sl.take 5++slX (kidF (kidsL (firstG x) (kidA x) (kidB x) k) k es j) (q+1)++[.var 84 [.d (.int .i64 k),.d (.bool false)]]) (fun j:Nat=>(kidsL (firstG x) (kidA x) (kidB x) k).length - j) 0 ?_ ?_ ?_
     · exact Nat.zero_le _
     · exact⟨[0,1,2,3,4,5,6,7,10,9],by simp[kidF]⟩
     rintro I2 S2 μ2 hI2 hS2 hμ2 j hj
     have hnx:=kidF_next (M:=2*grN x) (N:=grN x) (F:=firstG x) (ka:=kidA x) (kb:=kidB x) (fr:=fr) (s:=s) (k:=k) (hlt _ (by omega))
     have hkl:=kidsL_len (F:=firstG x) (ka:=kidA x) (kb:=kidB x) (k:=k)
     obtain⟨v1,v2,v3⟩:=kidF_inv (j:=j) hnx hj hinv hes hp
     by_cases hlt2:j<(kidsL (firstG x) (kidA x) (kidB x) k).length
     · have hlen2:=v1.len
       have w2:IntKind.i64.wrap ((j:Int)+1)=(j:Int)+1:=wrap_id (by omega) (by omega)
       obtain⟨c,hc⟩:∃ c,(kidsL (firstG x) (kidA x) (kidB x) k)[j]? = some c:=⟨_,List.getElem?_eq_getElem hlt2⟩
       have hcM:=(hnx c (List.mem_of_getElem? hc)).1
       by_cases hm:2*c∈keyE (kidF (kidsL (firstG x) (kidA x) (kidB x) k) k es j)
       · have hn:kidF (kidsL (firstG x) (kidA x) (kidB x) k) k es (j+1)=kidF (kidsL (firstG x) (kidA x) (kidB x) k) k es j:=by simp[kidF,hc,visG,hm]
         have kv:=visit_up_old (q:=q+1) (a:=c) (c:=k) (by omega) hm
         simp[decide_eq_true hlt2,hc,AOp_callv,callV_fn]
         refine callT_step (kv) [] [5,6,7,8] (by simp) ?_
         simp[w2]
         exact round_of hI2 hS2 hμ2 (j+1) (by omega) (by omega) ⟨[0,1,2,3,4,5,6,7,8,9],by simp[hn]⟩
       · have hn:kidF (kidsL (firstG x) (kidA x) (kidB x) k) k es (j+1)=kidF (kidsL (firstG x) (kidA x) (kidB x) k) k es j++[(2*c,((2*k+1:Nat):Int))]:=by simp[kidF,hc,visG,hm]
         have kv:=visit_up_new (q:=q+1) (a:=c) (c:=k) (by omega) hm (by omega) (by omega)
         rw[←hn] at kv
         simp[decide_eq_true hlt2,hc,AOp_callv,callV_fn]
         refine callT_step (kv) [] [5,6,7,8] (by simp) ?_
         simp[w2]
         exact round_of hI2 hS2 hμ2 (j+1) (by omega) (by omega) ⟨[0,1,2,3,4,5,6,7,10,9],by simp⟩
     · have hj':j=(kidsL (firstG x) (kidA x) (kidB x) k).length:=by omega
       subst hj'
       clear hI2 hS2 hμ2 hnx
       cases hb:getB fr k with
       | true =>
         rw[hb] at hfk
         have hnl:(kidF (kidsL (firstG x) (kidA x) (kidB x) k) k es (kidsL (firstG x) (kidA x) (kidB x) k).length)=((kidsL (firstG x) (kidA x) (kidB x) k).map (2*·)).foldl (visG ((2*k+1:Nat):Int)) es:=kidF_all
         rw[←hnl] at hrun
         have hlen2:=v1.len
         generalize kidF (kidsL (firstG x) (kidA x) (kidB x) k) k es (kidsL (firstG x) (kidA x) (kidB x) k).length=es0 at *
         by_cases hz0:0<getZ s.1 k
         · rw[if_pos hz0,List.foldl_cons,List.foldl_nil] at hrun
           obtain⟨y1,-,y3,y4⟩:=visG_facts v1 (by omega) v3 (t:=2*k) (by omega) (by rw[nextI_dn,if_pos hz0];simp)
           by_cases hm:2*k∈keyE es0
           · have hE:visG ((2*k+1:Nat):Int) es0 (2*k)=es0:=by simp[visG,hm]
             rw[hE] at hrun
             have kv:=visit_up_old (q:=q+1) (a:=k) (c:=k) (by omega) hm
             simp[hlt2,decide_eq_false hlt2,hfk,hik,hz0,AOp_callv,callV_fn]
             refine callT_step (kv) [] [5,6,7,8] (by simp) ?_
             simp
             exact round_of hI hS hμ (f,q+1,es0) ⟨by simp only;omega,by simp only;omega,v1,by simp only;omega,hrun⟩ (by simp) ⟨[0,1,2,3,4,5,6,7,8],by simp⟩
           · have hE:visG ((2*k+1:Nat):Int) es0 (2*k)=es0++[(2*k,((2*k+1:Nat):Int))]:=by simp[visG,hm]
             have kv:=visit_up_new (q:=q+1) (a:=k) (c:=k) (by omega) hm (by omega) (by omega)
             rw[hE] at hrun y1 y4
             obtain⟨es1,hes1⟩:∃ es1,es1=es0++[(2*k,((2*k+1:Nat):Int))]:=⟨_,rfl⟩
             rw[←hes1] at hrun y1 y4 kv
             simp[hlt2,decide_eq_false hlt2,hfk,hik,hz0,AOp_callv,callV_fn]
             refine callT_step (kv) [] [5,6,7,8] (by simp) ?_
             simp
             exact round_of hI hS hμ (f,q+1,es1) ⟨by simp only;omega,by simp only;omega,y1,by simp only;omega,hrun⟩ (by simp) ⟨[0,1,2,3,4,5,6,7,10],by simp⟩
         · rw[if_neg hz0,List.foldl_nil] at hrun
           simp[hlt2,decide_eq_false hlt2,hfk,hik,hz0]
           exact round_of hI hS hμ (f,q+1,es0) ⟨by simp only;omega,by simp only;omega,v1,by simp only;omega,hrun⟩ (by simp) ⟨[0,1,2,3,4,5,6,7,8],by simp⟩
       | false =>
         rw[hb] at hfk
         have hnl:(kidF (kidsL (firstG x) (kidA x) (kidB x) k) k es (kidsL (firstG x) (kidA x) (kidB x) k).length)=((kidsL (firstG x) (kidA x) (kidB x) k).map (2*·)).foldl (visG ((2*k+1:Nat):Int)) es:=kidF_all
         rw[←hnl] at hrun
         have hlen2:=v1.len
         generalize kidF (kidsL (firstG x) (kidA x) (kidB x) k) k es (kidsL (firstG x) (kidA x) (kidB x) k).length=es0 at *
         by_cases hz0:0<getZ s.1 k
         · rw[if_pos hz0,List.foldl_cons,List.foldl_nil] at hrun
           obtain⟨y1,-,y3,y4⟩:=visG_facts v1 (by omega) v3 (t:=2*k) (by omega) (by rw[nextI_dn,if_pos hz0];simp)
           by_cases hm:2*k∈keyE es0
           · have hE:visG ((2*k+1:Nat):Int) es0 (2*k)=es0:=by simp[visG,hm]
             rw[hE] at hrun
             have kv:=visit_up_old (q:=q+1) (a:=k) (c:=k) (by omega) hm
             simp[hlt2,decide_eq_false hlt2,hfk,hik,hz0,AOp_callv,callV_fn]
             refine callT_step (kv) [] [5,6,7,8] (by simp) ?_
             simp
             exact round_of hI hS hμ (f,q+1,es0) ⟨by simp only;omega,by simp only;omega,v1,by simp only;omega,hrun⟩ (by simp) ⟨[0,1,2,3,4,5,6,7,8],by simp⟩
           · have hE:visG ((2*k+1:Nat):Int) es0 (2*k)=es0++[(2*k,((2*k+1:Nat):Int))]:=by simp[visG,hm]
             have kv:=visit_up_new (q:=q+1) (a:=k) (c:=k) (by omega) hm (by omega) (by omega)
             rw[hE] at hrun y1 y4
             obtain⟨es1,hes1⟩:∃ es1,es1=es0++[(2*k,((2*k+1:Nat):Int))]:=⟨_,rfl⟩
             rw[←hes1] at hrun y1 y4 kv
             simp[hlt2,decide_eq_false hlt2,hfk,hik,hz0,AOp_callv,callV_fn]
             refine callT_step (kv) [] [5,6,7,8] (by simp) ?_
             simp
             exact round_of hI hS hμ (f,q+1,es1) ⟨by simp only;omega,by simp only;omega,y1,by simp only;omega,hrun⟩ (by simp) ⟨[0,1,2,3,4,5,6,7,10],by simp⟩
         · rw[if_neg hz0,List.foldl_nil] at hrun
           simp[hlt2,decide_eq_false hlt2,hfk,hik,hz0]
           exact round_of hI hS hμ (f,q+1,es0) ⟨by simp only;omega,by simp only;omega,v1,by simp only;omega,hrun⟩ (by simp) ⟨[0,1,2,3,4,5,6,7,8],by simp⟩
end Go.Proofs.Ytakohcpfjkcfdaa
