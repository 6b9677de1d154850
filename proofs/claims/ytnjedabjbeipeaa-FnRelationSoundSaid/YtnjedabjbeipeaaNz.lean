/-
  Relations of states: the program, by an abstract walk.
  Conditions: those typed in each theorem.
-/
import Derived.Test.YtnjedabjbeipeaaNy
namespace Go.Proofs.Ytnjedabjbeipeaa
open Go.RowKit Go.ChangeShapes Go.WideShapes
set_option linter.unusedVariables false
set_option linter.unusedSimpArgs false
attribute [local simp ↓] condG_true condG_false condB_true condB_false
attribute [local simp] AWp_skip AWp_region_t AWp_region_d AWp_region_f still_mk AWp_seq AWp_cond condV_bool condB AWp_block AWp_exit AWp_ret
attribute [local simp] AOps_nil AOp_move AOp_assign AOp_pick AOp_binOp AOp_unOp AOp_convert AOp_len AOp_max AOp_min AOp_indexAddr AOp_load
attribute [local simp] AOp_fieldAddr AOp_field AOp_extract AOp_nilCheck AOp_build AOp_alloc AOp_box AOp_call AOp_store AOp_append AOp_buildSlice nextB_some
attribute [local simp] nextB_none adoptO adoptC AOp_makeSlice AOp_slice AOp_makeFunc AOp_guard guardD_some guardG_bool guardG_undef nextO_some nextS_some
attribute [local simp] nextZ_some nextL_some nextM_some nextT_some sliceO sliceL sliceT partO partV boundV funcO pickO
attribute [local simp] convO lenO maxO minO idxO extO nilO buildO litO litC makeO chunks
attribute [local simp] fillV placeOf thenA inBlockA St.get St.put St.eval ofCell evalT abin_add abin_sub abin_mul
attribute [local simp] abin_quo abin_rem abin_and abin_or abin_xor abin_andNot abin_shl abin_shr abin_shlu abin_eql abin_eqp abin_neq
attribute [local simp] abin_lss abin_leq abin_gtr abin_geq abin_eqlb abin_neqb aun pickV lenV intOf? indexV takeD
attribute [local simp] takeV loadV fieldAddrV fieldV ofX presD presDs pres presAll cellsV V.cell storeV
attribute [local simp] freezeC putAt kill takeC plains plainV scalarV nat_neg keepT sets eSl e1
attribute [local simp] e2 e3 e4 eInt eBool abinS_d abinS_agg abinS nilEq abin_eqb AOp_makeMap AOp_lookup
attribute [local simp] AOp_mapUpdate lookG_some updG_some mapV kyOf vlOf lookV vlV buildA afterCall inst inst1
attribute [local simp] inst1s instD instDs RetA resVs resV gives give1 give1s Le isPin leSlots
attribute [local simp] leS leTmps leV le0 le0s ren ren0 renS ren0s frame enterT afterT_some
attribute [local simp] afterC_some lives Slot.live arrsOk viewV view0 renT rens renSs setAll List.range'_succ RetT
attribute [local simp] RetW joinV leT AOpsE_nil AOpsE_cons AOpsT_nil AOpsT_cons isCallT isFnO callOf callVC_fn condC_true
attribute [local simp] condC_false beginT_mk beginX_mk AOpsX_zero thenT_mk pickE pickT isT loose namesOf namesV names1
attribute [local simp] names0 stableN sameAt Op.operands Call.operands
theorem flops_of {x:GrD} (h:flopsB x=true):∀ s∈x.2.1,s.1=0:=fun s hs=>by simpa using List.all_eq_true.1 h s hs
theorem start_len {x:GrD}:(startL x).length=x.2.1.length:=by simp[startL]
theorem start_bits {x:GrD} (hok:netOkB x=true) (h:flopsB x=true):bitsI (startL x):=by
 refine bitsI_map fun s hs=>?_
 have h1:=(netOk_of hok).2.1 s hs
 have h0:=flops_of h s hs
 simp only[seqOkB,h0,if_true,Bool.and_eq_true] at h1
 exact rng_iff.1 h1.1
theorem stOk_of {x:GrD} {st:List Int} (hok:netOkB x=true) (h:flopsB x=true) (hl:st.length=x.2.1.length) (hb:bitsI st):stOkGB x st=true:=by
 simp only[stOkGB,hok,hl,decide_true,Bool.true_and]
 refine List.all_eq_true.2 fun p hp=>?_
 have h1:=hb p.1 (List.of_mem_zip hp).1
 have h0:=flops_of h p.2 (List.of_mem_zip hp).2
 rw[h0]
 exact rng_iff.2 h1
theorem nxt_len {x:GrD} {st vals:List Int} (hl:st.length=x.2.1.length):(nxtG x st vals).length=x.2.1.length:=by simp[nxtG];omega
theorem nxt_bits {x:GrD} {st vals:List Int} (h:flopsB x=true) (hb:bitsI st):bitsI (nxtG x st vals):=by
 refine bitsI_map fun p hp=>?_
 have h0:=flops_of h p.1 (List.of_mem_zip hp).1
 have h1:=hb p.2 (List.of_mem_zip hp).2
 have hr:rng p.2 0 1=true:=rng_iff.2 h1
 simp only[nxF,seqNextL,h0,if_true,hr]
 omega
theorem lk_len {ls:List LinkD} {st:List Int}:(lkL ls st).length=ls.length:=by simp[lkL]
theorem lk_bits {ls:List LinkD} {st:List Int}:bitsI (lkL ls st):=bitsI_map fun l _=>by unfold lkF;omega
theorem linksOk_of {a b:GrD} {ls:List LinkD} (h:linksOkB a b ls=true):netOkB a=true∧netOkB b=true∧flopsB a=true∧flopsB b=true∧ls.length=b.2.1.length∧∀ st:List Int,st.length=a.2.1.length→linksIn st ls:=by
 simp only[linksOkB,Bool.and_eq_true,decide_eq_true_eq] at h
 obtain⟨⟨⟨⟨⟨⟨⟨h1,h2⟩,h3⟩,h4⟩,h5⟩,h6⟩,h7⟩,h8⟩:=h
 refine⟨h1,h2,h3,h4,h7,fun st hst l hl=>?_⟩
 have h9:=List.all_eq_true.1 h8 l hl
 simp only[linkFits,Bool.and_eq_true] at h9
 refine⟨tableOk_le h9.1,fun y hy=>?_⟩
 have:=rng_iff.1 (List.all_eq_true.1 h9.2 y hy)
 rw[hst]
 omega
def stX (a:GrD) (x:Int):List Int:=(List.range a.2.1.length).map fun k:Nat=>shr64 x (a.1+(k:Int)) % 2
theorem stX_len {a:GrD} {x:Int}:(stX a x).length=a.2.1.length:=by simp[stX]
theorem stX_bits {a:GrD} {x:Int}:bitsI (stX a x):=bitsI_map fun k _=>by omega
theorem stX_at {a:GrD} {x:Int} {k:Nat} (h:k<a.2.1.length):(stX a x)[k]? = some (shr64 x (a.1+(k:Int)) % 2):=by simp[stX,h]
def relAtB (a b:GrD) (ls:List LinkD) (x:Int):Bool :=
 decide ((stepG a (stX a x) x).2=(stepG b (lkL ls (stX a x)) x).2)&&sameB (lkL ls (stepG a (stX a x) x).1) (stepG b (lkL ls (stX a x)) x).1
def relN (a:GrD):Nat:=2 ^ (a.1.toNat+a.2.1.length)
def relAll (a b:GrD) (ls:List LinkD):Bool:=(List.range (relN a)).all fun x=>relAtB a b ls x
def relB (a b:GrD) (ls:List LinkD):Bool:=linksOkB a b ls&&decide (a.1+a.2.1.length≤10)&&sameB (lkL ls (startL a)) (startL b)&&relAll a b ls
theorem relAll_not {a b:GrD} {ls:List LinkD} {k:Nat} (hk:k<relN a) (h:relAtB a b ls k=false):relAll a b ls=false:=by
 cases hr:relAll a b ls with
 | false=>rfl
 | true =>
   have:=List.all_eq_true.1 hr k (List.mem_range.2 hk)
   rw[h] at this
   cases this
theorem relN_le {a:GrD} (h0:0≤a.1) (h:a.1+a.2.1.length≤10):relN a≤1024:=Nat.pow_le_pow_right (by decide) (by omega:a.1.toNat+a.2.1.length≤10)
theorem relN_shl {a:GrD} (h0:0≤a.1) (h:a.1+a.2.1.length≤10):shl64 1 (a.1+(a.2.1.length:Int))=(relN a:Int):=by
 have e:a.1+(a.2.1.length:Int)=((a.1.toNat+a.2.1.length:Nat):Int):=by omega
 rw[e,shl64_bit (by omega) (by omega),Int.one_mul]
 simp[relN]
set_option maxRecDepth 100000 in
set_option maxHeartbeats 1000000 in
theorem iRel_con (a b:GrD) (ls:List LinkD) (ha:fitGr 1048576 a) (hb:fitGr 1048576 b) (hl:fitLk 1048576 ls):ConC Try.prog 10 [igr a,igr b,ilk ls] (.d (.bool (relB a b ls))):=by
 refine con_of (by kernel_rfl) Try.func10 rfl rfl rfl ?_
 simp[enGr]
 refine⟨by kernel_rfl,?_⟩
 refine call_step (iLinksOk_con a b ls ha hb hl) ?_
 simp
 rcases Bool.eq_false_or_eq_true (linksOkB a b ls) with h1|h1
 case inr=>simp[h1,relB]
 obtain⟨oa,ob,fa,fb,ll,lin⟩:=linksOk_of h1
 obtain⟨⟨n1,n2,n3,n4,n5,n6⟩,-,-,-⟩:=netOk_of oa
 have w1:IntKind.i64.wrap (a.1+(a.2.1.length:Int))=a.1+(a.2.1.length:Int):=wrap_id (by omega) (by omega)
 by_cases h2:a.1+(a.2.1.length:Int)≤10
 case neg=>simp[h1,w1,show (10:Int)<a.1+(a.2.1.length:Int) by omega,relB,h2]
 have wu:IntKind.u64.wrap (a.1+(a.2.1.length:Int))=a.1+(a.2.1.length:Int):=u64_id (by omega) (by omega)
 have hsh:=relN_shl n1 h2
 have hM:=relN_le n1 h2
 have lb:=hb.1
 simp[h1,w1,show ¬ (10:Int)<a.1+(a.2.1.length:Int) by omega]
 refine call_step (netStart_con a ha) ?_
 simp
 refine call_step (linkState_con ls (startL a) hl.1 (by rw[start_len];omega) (start_bits oa fa) (lin _ start_len)) ?_
 simp
 refine call_step (netStart_con b hb) ?_
 simp
 refine call_step (sameInts_con (lkL ls (startL a)) (startL b) (by rw[lk_len];omega) (by rw[lk_len,start_len];omega)) ?_
 simp
 rcases Bool.eq_false_or_eq_true (sameB (lkL ls (startL a)) (startL b)) with h3|h3
 case inr=>simp[h3,relB]
 have hB:relB a b ls=relAll a b ls:=by simp[relB,h1,h2,h3]
 rw[hB]
 simp[h3]
 refine aw_loopN [false,false,true,true,true,false,false,true,true,false,false,false,false,false,false,false,false,false,false,false,false,false,false,false,false,false,false,false,false,false,false,false,false,false,false,false,false,false,false,false,false,false,false,false,false,false,false,false,false,false,false,false,false,false,false,false,false,false,false,false,false,false,false,false,false,false,false,false,false,false,false,false,false,false,false,false,false,false,false,false,false,false,false,false,false,false,false,false,false,false,false,false,false,false,false,false] (fun k:Nat=>k≤relN a∧∀ j:Nat,j<k→relAtB a b ls j=true) (fun k:Nat=>[(8,.d (.int .i64 k))]) (fun k:Nat=>fun sl=>sl.take 2) (fun k:Nat=>relN a - k) 0 ?_ ?_ ?_
 · exact⟨by omega,fun j hj=>absurd hj (by omega)⟩
 · exact⟨[0,1],by simp⟩
 rintro I S μ hI hS hμ k ⟨hk,hall⟩
 by_cases hlt:k<relN a
 · have w2:IntKind.i64.wrap ((k:Int)+1)=(k:Int)+1:=wrap_id (by omega) (by omega)
   simp[w1,wu,show 0≤a.1+(a.2.1.length:Int) by omega,hsh,hlt]
   refine⟨by omega,?_⟩
   refine aw_loopU [false,false,true,true,true,false,false,true,true,true,false,false,false,false,false,false,false,false,false,false,false,false,false,false,false,false,false,false,false,false,false,false,false,false,false,false,false,false,false,false,false,false,false,false,false,false,false,false,false,false,false,false,false,true,true,false,false,false,false,false,false,false,false,false,false,false,false,false,false,false,false,false,false,false,false,false,false,false,false,false,false,false,false,false,false,false,false,false,false,false,false,false,false,false,false,false] (fun j:Nat=>j≤a.2.1.length) (fun j:Nat=>[(54,.d (.int .i64 j))]) (fun j:Nat=>[(2,.arr 3 true (mix ((stX a k).map (e1 eInt)) [.int .i64 0] j))]) (fun j:Nat=>a.2.1.length - j) 0 ?_ ?_ ?_
   · simp
   · exact⟨[0,1,2],by simp[mix_zero,stX_len]⟩
   rintro I2 S2 μ2 hI2 hS2 hμ2 j hj
   have hml:=mix_len (ys:=(stX a k).map (e1 eInt)) (z:=[D.int .i64 0]) (k:=j) (by rw[List.length_map,stX_len];exact hj)
   rw[List.length_map,stX_len] at hml
   by_cases hlt2:j<a.2.1.length
   · have w4:IntKind.i64.wrap ((j:Int)+1)=(j:Int)+1:=wrap_id (by omega) (by omega)
     have w5:IntKind.i64.wrap (a.1+(j:Int))=a.1+(j:Int):=wrap_id (by omega) (by omega)
     have wu2:IntKind.u64.wrap (a.1+(j:Int))=a.1+(j:Int):=u64_id (by omega) (by omega)
     have hat:=mix_at (ys:=(stX a k).map (e1 eInt)) (z:=[D.int .i64 0]) (k:=j) (by rw[List.length_map,stX_len];exact hlt2)
     have hset:=mix_set (ys:=(stX a k).map (e1 eInt)) (z:=[D.int .i64 0]) (k:=j) (y:=e1 eInt (shr64 k (a.1+(j:Int)) % 2)) (by rw[List.getElem?_map,stX_at hlt2];rfl)
     simp only[e1,eInt] at hset
     have hd:decide (j<a.2.1.length)=true:=decide_eq_true hlt2
     generalize hmx:mix ((stX a k).map (e1 eInt)) [D.int .i64 0] j=mx at *
     simp[hd,hml,w5,wu2,show 0≤a.1+(j:Int) by omega,and64_one,hat,w4]
     exact round_of hI2 hS2 hμ2 (j+1) (by omega) (by omega) ⟨[0,1,2],by simp[hset]⟩
   · have hj':j=a.2.1.length:=by omega
     have hall2:=mix_all (ys:=(stX a k).map (e1 eInt)) (z:=[D.int .i64 0])
     rw[List.length_map,stX_len] at hall2
     subst hj'
     rw[hall2]
     rw[hall2] at hml
     have hsl:=stX_len (a:=a) (x:=k)
     have hsb:=stX_bits (a:=a) (x:=k)
     have cA:=netStep_con a (stX a k) k ha oa hsl
     have cL:=linkState_con ls (stX a k) hl.1 (by omega) hsb (lin _ hsl)
     have cB:=netStep_con b (lkL ls (stX a k)) k hb ob (by rw[lk_len,ll])
     have rA:(stepG a (stX a k) k).1.length=a.2.1.length:=nxt_len hsl
     have bA:bitsI (stepG a (stX a k) k).1:=nxt_bits fa hsb
     have rB:(stepG b (lkL ls (stX a k)) k).1.length=b.2.1.length:=nxt_len (by rw[lk_len,ll])
     have hrel:relAtB a b ls k=(decide ((stepG a (stX a k) k).2=(stepG b (lkL ls (stX a k)) k).2)&&sameB (lkL ls (stepG a (stX a k) k).1) (stepG b (lkL ls (stX a k)) k).1):=rfl
     have hno:relAtB a b ls k=false→relAll a b ls=false:=relAll_not hlt
     have hyes:relAtB a b ls k=true→∀ j:Nat,j<k+1→relAtB a b ls j=true:=fun h j hj=>by
      by_cases e:j=k
      · rw[e];exact h
      · exact hall j (by omega)
     generalize stepG a (stX a k) k=pA at *
     generalize lkL ls (stX a k)=lst at *
     generalize stepG b lst k=pB at *
     generalize stX a k=st at *
     obtain⟨nA,oA⟩:=pA
     obtain⟨nB,oB⟩:=pB
     simp only at cA cB rA bA rB hrel
     simp[hml]
     refine call_step (cA) ?_
     simp
     refine⟨by kernel_rfl,?_⟩
     refine call_step (cL) ?_
     simp
     refine call_step (cB) ?_
     simp
     by_cases ho:oA=oB
     case neg =>
      have hz:=hno (by rw[hrel,decide_eq_false ho];rfl)
      simp[ho,show (oA != oB)=true by simpa using ho,hz]
     simp[ho,show (oA != oB)=false by simpa using ho]
     refine call_step (linkState_con ls nA hl.1 (by omega) bA (lin _ rA)) ?_
     simp
     refine call_step (sameInts_con (lkL ls nA) nB (by rw[lk_len];omega) (by rw[lk_len];omega)) ?_
     simp
     rcases Bool.eq_false_or_eq_true (sameB (lkL ls nA) nB) with h5|h5
     case inr =>
      have hz:=hno (by rw[hrel,h5,Bool.and_false])
      simp[h5,hz]
     have hy:=hyes (by rw[hrel,h5,decide_eq_true ho];rfl)
     simp[h5,w2]
     exact round_of hI hS hμ (k+1) ⟨by omega,hy⟩ (by omega) ⟨[0,1],by simp⟩
 · have hr:relAll a b ls=true:=List.all_eq_true.2 fun j hj=>hall j (by have:=List.mem_range.1 hj;omega)
   simp[w1,wu,show 0≤a.1+(a.2.1.length:Int) by omega,hsh,hlt,hr]
end Go.Proofs.Ytnjedabjbeipeaa
