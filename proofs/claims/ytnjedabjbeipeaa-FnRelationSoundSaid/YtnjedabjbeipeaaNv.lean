/-
  Values of a graph's nodes; states; a cycle, by abstract walks.
  Conditions: those typed in each theorem.
-/
import Derived.Test.YtnjedabjbeipeaaNd
import Derived.Test.YtnjedabjbeipeaaNp
namespace Go.Proofs.Ytnjedabjbeipeaa
open Go.RowKit Go.ChangeShapes Go.WideShapes
set_option linter.unusedVariables false
set_option linter.unusedSimpArgs false
attribute [local simp ↓] condG_true condG_false condB_true condB_false
attribute [local simp] AWp_skip AWp_region_t AWp_region_d AWp_region_f still_mk AWp_seq AWp_cond condV_bool condB AWp_block AWp_exit AWp_ret
attribute [local simp] AOps_nil AOp_move AOp_assign AOp_pick AOp_binOp AOp_unOp AOp_convert AOp_len AOp_max AOp_min AOp_indexAddr AOp_load
attribute [local simp] AOp_fieldAddr AOp_field AOp_extract AOp_nilCheck AOp_build AOp_alloc AOp_box AOp_call AOp_store AOp_append AOp_buildSlice nextB_some
attribute [local simp] nextB_none adoptO adoptC AOp_makeSlice AOp_slice AOp_makeFunc AOp_guard guardD_some guardG_bool guardG_undef nextO_some nextS_some
attribute [local simp] nextZ_some nextL_some nextM_some nextT_some sliceO sliceL sliceT partO partV boundV funcO pickO
attribute [local simp] convO lenO maxO minO idxO extO nilO buildO litO litC makeO chunks
attribute [local simp] fillV placeOf thenA inBlockA St.get St.put St.eval ofCell evalT abin_add abin_sub abin_mul
attribute [local simp] abin_quo abin_rem abin_and abin_or abin_xor abin_andNot abin_shl abin_shr abin_shlu abin_eql abin_eqp abin_neq
attribute [local simp] abin_lss abin_leq abin_gtr abin_geq abin_eqlb abin_neqb aun pickV lenV intOf? indexV takeD
attribute [local simp] takeV loadV fieldAddrV fieldV ofX presD presDs pres presAll cellsV V.cell storeV
attribute [local simp] freezeC putAt kill takeC plains plainV scalarV nat_neg keepT sets eSl e1
attribute [local simp] e2 e3 e4 eInt eBool abinS_d abinS_agg abinS nilEq abin_eqb AOp_makeMap AOp_lookup
attribute [local simp] AOp_mapUpdate lookG_some updG_some mapV kyOf vlOf lookV vlV buildA afterCall inst inst1
attribute [local simp] inst1s instD instDs RetA resVs resV gives give1 give1s Le isPin leSlots
attribute [local simp] leS leTmps leV le0 le0s ren ren0 renS ren0s frame enterT afterT_some
attribute [local simp] afterC_some lives Slot.live arrsOk viewV view0 renT rens renSs setAll List.range'_succ RetT
attribute [local simp] RetW joinV leT AOpsE_nil AOpsE_cons AOpsT_nil AOpsT_cons isCallT isFnO callOf callVC_fn condC_true
attribute [local simp] condC_false beginT_mk beginX_mk AOpsX_zero thenT_mk pickE pickT isT loose namesOf namesV names1
attribute [local simp] names0 stableN sameAt Op.operands Call.operands
def anK (v0:List Int) (f:Nat) (ns:List AndD):Nat→List Int
 | 0=>v0
 | k+1=>(anK v0 f ns k).set (f+k) (litL (anK v0 f ns k) ((ns[k]?).getD (0,0)).1*litL (anK v0 f ns k) ((ns[k]?).getD (0,0)).2)
theorem anK_len {v0:List Int} {f:Nat} {ns:List AndD}:∀ k,(anK v0 f ns k).length=v0.length
 | 0=>rfl
 | k+1=>by simp[anK,anK_len k]
theorem anK_bits {v0:List Int} {f:Nat} {ns:List AndD} (h:bitsI v0):∀ k,bitsI (anK v0 f ns k)
 | 0=>h
 | k+1=>bitsI_set (anK_bits h k) (mul_bit (litL_01 _ _) (litL_01 _ _))
def grN (x:GrD):Nat:=1+x.1.toNat+x.2.1.length+x.2.2.1.length
def inV (x:GrD) (inp:Int):List Int:=inK (grN x) inp x.1.toNat
def stV (x:GrD) (st:List Int) (inp:Int):List Int:=stK (inV x inp) (1+x.1.toNat) st st.length
def valsL (x:GrD) (st:List Int) (inp:Int):List Int:=anK (stV x st inp) (1+x.1.toNat+x.2.1.length) x.2.2.1 x.2.2.1.length
theorem inV_len {x:GrD} {i:Int}:(inV x i).length=grN x:=inK_len _
theorem stV_len {x:GrD} {st:List Int} {i:Int}:(stV x st i).length=grN x:=by unfold stV;rw[stK_len,inV_len]
theorem valsL_len {x:GrD} {st:List Int} {i:Int}:(valsL x st i).length=grN x:=by unfold valsL;rw[anK_len,stV_len]
theorem inV_bits {x:GrD} {i:Int}:bitsI (inV x i):=inK_bits _
theorem stV_bits {x:GrD} {st:List Int} {i:Int}:bitsI (stV x st i):=stK_bits inV_bits _
theorem valsL_bits {x:GrD} {st:List Int} {i:Int}:bitsI (valsL x st i):=anK_bits stV_bits _
theorem netOk_of {x:GrD} (h:netOkB x=true):(0≤x.1∧x.1≤20∧x.2.1.length≤12∧x.2.2.1.length≤300∧x.2.2.2.length≤16∧nodesG x=1+x.1+x.2.1.length+x.2.2.1.length) ∧
 (∀ s∈x.2.1,seqOkB s=true)∧(∀ y∈grRoots x,0≤y∧y<2*(grN x:Int)) ∧
 ∀ (k:Nat) (a:AndD),x.2.2.1[k]? = some a→(0≤a.1∧a.1<2*(1+x.1+x.2.1.length+k))∧0≤a.2∧a.2<2*(1+x.1+x.2.1.length+k):=by
 simp only[netOkB,Bool.and_eq_true,decide_eq_true_eq] at h
 obtain⟨⟨⟨h1,h2⟩,h3⟩,h4⟩:=h
 have hp:=nodesG_pos h1
 refine⟨hp,List.all_eq_true.1 h2,fun y hy=>?_,fun k a ha=>?_⟩
 · have:=rng_iff.1 (List.all_eq_true.1 h3 y hy)
   unfold grN
   omega
 · cases hf:andFits (1+x.1+x.2.1.length+k) a with
   | false=>rw[andsFit_not ha hf] at h4;cases h4
   | true =>
     simp only[andFits,Bool.and_eq_true] at hf
     have a1:=rng_iff.1 hf.1
     have a2:=rng_iff.1 hf.2
     omega
theorem firstSeq_con (x:GrD) (h1:0≤x.1∧x.1≤20):ConC Try.prog 83 [igr x] (.d (.int .i64 (1+x.1))):=by
 refine con_of (by kernel_rfl) Try.func83 rfl rfl rfl ?_
 have w1:IntKind.i64.wrap (1+x.1)=1+x.1:=wrap_id (by omega) (by omega)
 simp[enGr,w1]
set_option maxRecDepth 100000 in
set_option maxHeartbeats 1000000 in
theorem nodeValues_con (x:GrD) (st:List Int) (inp:Int) (hx:fitGr 1048576 x) (hok:netOkB x=true) (hs:st.length=x.2.1.length):ConC Try.prog 86 [igr x,ints st,.d (.int .i64 inp)] (ints (valsL x st inp)):=by
 obtain⟨⟨n1,n2,n3,n4,n5,n6⟩,-,-,o3⟩:=netOk_of hok
 have hN:grN x=1+x.1.toNat+x.2.1.length+x.2.2.1.length:=rfl
 have hNi:(1+x.1+(x.2.1.length:Int)+(x.2.2.1.length:Int)).toNat=grN x:=by omega
 refine con_of (by kernel_rfl) Try.func86 rfl rfl rfl ?_
 simp[enGr]
 refine call_step (iNodeCnt_con x ⟨n1,n2⟩ n3 n4) ?_
 simp
 refine⟨⟨by omega,by omega⟩,?_⟩
 rw[hNi]
 refine aw_loopU [false,true,true,true,false,false,false,true,true,false,false,false,false,false,false,false,false,false,false,false,false,false,false,false,false,false,false,false,false,false,false,false,false,false,false,false,false,false,false,false,false,false,false,false,false,false,false,false,false,false,false,false,false,false,false,false,false,false,false,false,false,false,false,false,false,false,false,false,false,false,false,false] (fun k:Nat=>k≤x.1.toNat) (fun k:Nat=>[(8,.d (.int .i64 k))]) (fun k:Nat=>[(1,.arr 3 true ((inK (grN x) inp k).map (e1 eInt)))]) (fun k:Nat=>x.1.toNat - k) 0 ?_ ?_ ?_
 · simp
 · exact⟨[0,1],by simp[inK]⟩
 · rintro I S μ hI hS hμ k hk
   obtain⟨lv,hlv⟩:∃ lv,lv=inK (grN x) inp k:=⟨_,rfl⟩
   have hlen:lv.length=grN x:=by rw[hlv,inK_len]
   have hnext:inK (grN x) inp (k+1)=lv.set (1+k) (bit inp k):=by rw[hlv];rfl
   rw[←hlv]
   by_cases hlt:k<x.1.toNat
   · have w2:IntKind.i64.wrap ((k:Int)+1)=(k:Int)+1:=wrap_id (by omega) (by omega)
     have w3:IntKind.i64.wrap (1+(k:Int))=1+(k:Int):=wrap_id (by omega) (by omega)
     have wk:IntKind.u64.wrap (k:Int)=k:=u64_id (by omega) (by omega)
     have ht:(1+(k:Int)).toNat=1+k:=by omega
     have hr:lv[1+k]? = some (atI lv (1+k)):=by rw[←ht];exact at_read (by omega)
     simp[show (k:Int)<x.1 by omega,w3,wk,and_shr,ht,hr,show ¬ 1+(k:Int)<0 by omega,w2]
     exact round_of hI hS hμ (k+1) (by omega) (by omega) ⟨[0,1],by simp[hnext,←setI]⟩
   · have hk':k=x.1.toNat:=by omega
     have hv:lv=inV x inp:=by rw[hlv,hk'];rfl
     clear hlv hnext hI hS hμ
     have hb0:bitsI lv:=by rw[hv];exact inV_bits
     simp[show ¬ ((k:Int)<x.1) by omega]
     refine aw_loopU [false,false,false,true,false,false,false,true,false,false,false,false,false,false,false,false,false,false,false,false,false,false,false,false,false,false,false,false,false,false,false,true,true,true,false,false,false,false,false,false,false,false,false,false,false,false,false,false,false,false,false,false,false,false,false,false,false,false,false,false,false,false,false,false,false,false,false,false,false,false,false,false] (fun k:Nat=>k≤st.length) (fun k:Nat=>[(33,.d (.int .i64 k))]) (fun k:Nat=>[(1,.arr 3 true ((stK lv (1+x.1.toNat) st k).map (e1 eInt)))]) (fun k:Nat=>st.length - k) 0 ?_ ?_ ?_
     · simp
     · exact⟨[0,1],by simp[stK]⟩
     rintro I S μ hI hS hμ k hk
     obtain⟨lw,hlw⟩:∃ lw,lw=stK lv (1+x.1.toNat) st k:=⟨_,rfl⟩
     have hlen2:lw.length=grN x:=by rw[hlw,stK_len,hlen]
     by_cases hlt:k<st.length
     · have hx1:st[k]? = some st[k]:=List.getElem?_eq_getElem hlt
       have hnext:stK lv (1+x.1.toNat) st (k+1)=lw.set (1+x.1.toNat+k) (st[k] % 2):=by rw[hlw];simp[stK,hx1]
       rw[←hlw]
       generalize st[k]=v at *
       have w2:IntKind.i64.wrap ((k:Int)+1)=(k:Int)+1:=wrap_id (by omega) (by omega)
       have w3:IntKind.i64.wrap (1+x.1+(k:Int))=1+x.1+(k:Int):=wrap_id (by omega) (by omega)
       have ht:(1+x.1+(k:Int)).toNat=1+x.1.toNat+k:=by omega
       have hr:lw[1+x.1.toNat+k]? = some (atI lw (1+x.1+k)):=by rw[←ht];exact at_read (by omega)
       have hd:decide (k<st.length)=true:=decide_eq_true hlt
       simp[hd,hx1]
       refine call_step (firstSeq_con x ⟨n1,n2⟩) ?_
       simp[w3,and64_one,ht,hr,show ¬ 1+x.1+(k:Int)<0 by omega,w2]
       exact round_of hI hS hμ (k+1) (by omega) (by omega) ⟨[0,1],by simp[hnext,←setI]⟩
     · have hk':k=st.length:=by omega
       subst hk'
       have hv2:lw=stV x st inp:=by rw[hlw,hv];rfl
       rw[←hlw]
       clear hlw hI hS hμ
       have hb1:bitsI lw:=by rw[hv2];exact stV_bits
       simp[hlt]
       refine aw_loopU [false,false,false,true,false,false,false,true,false,false,false,false,false,false,false,false,false,false,false,false,false,false,false,false,false,false,false,false,false,false,false,false,false,false,false,false,false,false,false,false,false,false,false,false,false,false,false,false,true,true,true,false,false,false,false,false,false,false,false,false,false,false,false,false,false,false,false,false,false,false,false,false] (fun k:Nat=>k≤x.2.2.1.length) (fun k:Nat=>[(50,.d (.int .i64 k))]) (fun k:Nat=>[(1,.arr 3 true ((anK lw (1+x.1.toNat+x.2.1.length) x.2.2.1 k).map (e1 eInt)))]) (fun k:Nat=>x.2.2.1.length - k) 0 ?_ ?_ ?_
       · simp
       · exact⟨[0,1],by simp[anK]⟩
       rintro I S μ hI hS hμ k hk
       obtain⟨lu,hlu⟩:∃ lu,lu=anK lw (1+x.1.toNat+x.2.1.length) x.2.2.1 k:=⟨_,rfl⟩
       have hlen3:lu.length=grN x:=by rw[hlu,anK_len,hlen2]
       have hb2:bitsI lu:=by rw[hlu];exact anK_bits hb1 k
       by_cases hlt:k<x.2.2.1.length
       · have hx1:x.2.2.1[k]? = some x.2.2.1[k]:=List.getElem?_eq_getElem hlt
         have hL:(enAnd x.2.2.1[k]).length=2:=rfl
         have hnext:anK lw (1+x.1.toNat+x.2.1.length) x.2.2.1 (k+1)=lu.set (1+x.1.toNat+x.2.1.length+k) (litL lu x.2.2.1[k].1*litL lu x.2.2.1[k].2):=by rw[hlu];simp[anK,hx1]
         have ho:=o3 k _ hx1
         rw[←hlu]
         generalize x.2.2.1[k]=s at *
         have w2:IntKind.i64.wrap ((k:Int)+1)=(k:Int)+1:=wrap_id (by omega) (by omega)
         have w3:IntKind.i64.wrap (1+x.1+(x.2.1.length:Int)+(k:Int))=1+x.1+(x.2.1.length:Int)+(k:Int):=wrap_id (by omega) (by omega)
         have ht:(1+x.1+(x.2.1.length:Int)+(k:Int)).toNat=1+x.1.toNat+x.2.1.length+k:=by omega
         have hr:lu[1+x.1.toNat+x.2.1.length+k]? = some (atI lu (1+x.1+x.2.1.length+k)):=by rw[←ht];exact at_read (by omega)
         have hm:and64 (litL lu s.1) (litL lu s.2)=litL lu s.1*litL lu s.2:=and64_bit (litL_01 _ _) (litL_01 _ _)
         have hd:decide (k<x.2.2.1.length)=true:=decide_eq_true hlt
         simp[hd,hx1,hL,enAnd]
         refine⟨by kernel_rfl,?_⟩
         refine call_step (firstAnd_con x ⟨n1,n2⟩ n3) ?_
         simp[w3]
         refine call_step (litValue_con lu s.1 hb2 (by omega) (by omega)) ?_
         simp
         refine call_step (litValue_con lu s.2 hb2 (by omega) (by omega)) ?_
         simp[hm,ht,hr,show ¬ 1+x.1+(x.2.1.length:Int)+(k:Int)<0 by omega,w2]
         exact round_of hI hS hμ (k+1) (by omega) (by omega) ⟨[0,1],by simp[hnext,←setI]⟩
       · have hk':k=x.2.2.1.length:=by omega
         subst hk'
         have hv3:lu=valsL x st inp:=by rw[hlu,hv2];rfl
         rw[←hlu]
         simp[hlt,hv3]
end Go.Proofs.Ytnjedabjbeipeaa
