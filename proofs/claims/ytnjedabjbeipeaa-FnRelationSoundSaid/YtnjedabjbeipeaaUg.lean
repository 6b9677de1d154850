/-
  Forward retiming, by an abstract walk: the reference.
  Conditions: those typed in each theorem.
-/
import Derived.Test.YtnjedabjbeipeaaUf
namespace Go.Proofs.Ytnjedabjbeipeaa
open Go.RowKit Go.ChangeShapes Go.WideShapes
set_option linter.unusedVariables false
set_option linter.unusedSimpArgs false
attribute [local simp ↓] condG_true condG_false condB_true condB_false
attribute [local simp] AWp_skip AWp_region_t AWp_region_d AWp_region_f still_mk AWp_seq AWp_cond condV_bool condB AWp_block AWp_exit AWp_ret
attribute [local simp] AOps_nil AOp_move AOp_assign AOp_pick AOp_binOp AOp_unOp AOp_convert AOp_len AOp_max AOp_min AOp_indexAddr AOp_load
attribute [local simp] AOp_fieldAddr AOp_field AOp_extract AOp_nilCheck AOp_build AOp_alloc AOp_box AOp_call AOp_store AOp_append AOp_buildSlice nextB_some
attribute [local simp] nextB_none adoptO adoptC AOp_makeSlice AOp_slice AOp_makeFunc AOp_guard guardD_some guardG_bool guardG_undef nextO_some nextS_some
attribute [local simp] nextZ_some nextL_some nextM_some nextT_some sliceO sliceL sliceT partO partV boundV funcO pickO
attribute [local simp] convO lenO maxO minO idxO extO nilO buildO litO litC makeO chunks
attribute [local simp] fillV placeOf thenA inBlockA St.get St.put St.eval ofCell evalT abin_add abin_sub abin_mul
attribute [local simp] abin_quo abin_rem abin_and abin_or abin_xor abin_andNot abin_shl abin_shr abin_shlu abin_eql abin_eqp abin_neq
attribute [local simp] abin_lss abin_leq abin_gtr abin_geq abin_eqlb abin_neqb aun pickV lenV intOf? indexV takeD
attribute [local simp] takeV loadV fieldAddrV fieldV ofX presD presDs pres presAll cellsV V.cell storeV
attribute [local simp] freezeC putAt kill takeC plains plainV scalarV nat_neg keepT sets eSl e1
attribute [local simp] e2 e3 e4 eInt eBool abinS_d abinS_agg abinS nilEq abin_eqb AOp_makeMap AOp_lookup
attribute [local simp] AOp_mapUpdate lookG_some updG_some mapV kyOf vlOf lookV vlV buildA afterCall inst inst1
attribute [local simp] inst1s instD instDs RetA resVs resV gives give1 give1s Le isPin leSlots
attribute [local simp] leS leTmps leV le0 le0s ren ren0 renS ren0s frame enterT afterT_some
attribute [local simp] afterC_some lives Slot.live arrsOk viewV view0 renT rens renSs setAll List.range'_succ RetT
attribute [local simp] RetW joinV leT AOpsE_nil AOpsE_cons AOpsT_nil AOpsT_cons isCallT isFnO callOf callVC_fn condC_true
attribute [local simp] condC_false beginT_mk beginX_mk AOpsX_zero thenT_mk pickE pickT isT loose namesOf namesV names1
attribute [local simp] names0 stableN sameAt Op.operands Call.operands
def stF (x:GrD) (pl:List Int) (fl:SeqD) (i:Nat):List SeqD:=(x.2.1.take i).map (mapSeq pl)++((x.2.1.drop i).map zeroSeq++[fl])
theorem stF_at {x:GrD} {pl:List Int} {fl s:SeqD} {i:Nat} (h:x.2.1[i]? = some s):(stF x pl fl i)[i]? = some (zeroSeq s):=by
 have hi:=(List.getElem?_eq_some_iff.1 h).1
 unfold stF
 rw[List.getElem?_append_right (by simp;omega)]
 simp only[List.length_map,List.length_take]
 rw[List.getElem?_append_left (by simp;omega),List.getElem?_map,List.getElem?_drop,show i+(i - min i x.2.1.length)=i by omega,h]
 rfl
theorem stF_set {x:GrD} {pl:List Int} {fl s:SeqD} {i:Nat} (h:x.2.1[i]? = some s):(stF x pl fl i).set i (mapSeq pl s)=stF x pl fl (i+1):=by
 obtain⟨hi,e⟩:=List.getElem?_eq_some_iff.1 h
 unfold stF
 rw[List.set_append_right _ _ (by simp;omega),take_snoc' h,List.map_append,List.append_assoc]
 congr 1
 rw[List.length_map,List.length_take,show i - min i x.2.1.length=0 by omega,List.drop_eq_getElem_cons hi,e]
 rfl
theorem stF_len {x:GrD} {pl:List Int} {fl:SeqD} {i:Nat}:(stF x pl fl i).length=x.2.1.length+1:=by unfold stF;simp;omega
theorem stF_all {x:GrD} {pl:List Int} {fl:SeqD}:stF x pl fl x.2.1.length=x.2.1.map (mapSeq pl)++[fl]:=by unfold stF;simp
theorem stF_zero {x:GrD} {pl:List Int} {fl:SeqD}:stF x pl fl 0=x.2.1.map zeroSeq++[fl]:=by unfold stF;simp
set_option maxRecDepth 100000 in
set_option maxHeartbeats 4000000 in
theorem sForward_conT (x:GrD) (k:Int) (hx:fitGr 1048576 x) (hg:okGr x):ConT Try.prog 135 [vgr x,.d (.int .i64 k)] [] (.tup [vgr (if fwdOkB x k=true then fwdG x k else x),.d (.bool (fwdOkB x k))]) []:=by
 have kcopy:=l08Copy_con x hx
 have kok:=sNetOk_con x hx hg
 have hO:fwdOkB x k=(frontB x k&&((fwdImp x k).2.2&&decide (0≤fwdV x k))):=rfl
 have hfr0:frontB x k=(netOkB x&&(decide (0≤k∧k<x.2.2.1.length)&&(decide (0≤flopL x (andK x k).1)&&(decide (0≤flopL x (andK x k).2)&&decide (x.2.1.length<12))))):=rfl
 obtain⟨G,hG⟩:∃ G,(if fwdOkB x k=true then fwdG x k else x)=G:=⟨_,rfl⟩
 rw[hG]
 obtain⟨f1,f2,f3,f4⟩:=id hx
 have hno':fwdOkB x k=false→G=x:=fun h=>by rw[←hG,h];simp
 generalize hOO:fwdOkB x k=O at *
 have hno:frontB x k=false→O=false∧G=x:=fun h=>by
  rw[h,Bool.false_and] at hO
  exact⟨hO,hno' hO⟩
 refine conT_ofD (by kernel_rfl) Try.func135 rfl rfl rfl (by simp[laters,Later]) (by simp[lives,Slot.live]) ?_
 simp[enGr]
 cases hok:netOkB x with
 | false =>
   obtain⟨rfl,hGx⟩:=hno (by rw[hfr0,hok];rfl)
   rw[hGx]
   rw[hok] at kok
   refine call_step (kok) ?_
   simp[enGr]
   refine call_step (kcopy) ?_
   simp[enGr]
   exact⟨[],by simp⟩
 | true =>
 rw[hok] at kok hfr0
 obtain⟨⟨n1,n2,n3,n4,n5,n6⟩,-,o2,-⟩:=netOk_of hok
 obtain⟨hF,hgl,hNi,hno2⟩:=ok_sizes hok
 have hN:=grN_eq x
 by_cases h0:0≤k
 case neg =>
  obtain⟨rfl,hGx⟩:=hno (by rw[hfr0,decide_eq_false (by omega)];rfl)
  rw[hGx]
  refine call_step (kok) ?_
  simp[enGr,show k<0 by omega,decide_eq_true (show k<0 by omega)]
  refine call_step (kcopy) ?_
  simp[enGr]
  exact⟨[],by simp⟩
 obtain⟨kn,rfl⟩:∃ kn:Nat,k=kn:=⟨k.toNat,by omega⟩
 by_cases hk:kn<x.2.2.1.length
 case neg =>
  obtain⟨rfl,hGx⟩:=hno (by rw[hfr0,decide_eq_false (by omega)];rfl)
  rw[hGx]
  refine call_step (kok) ?_
  simp[enGr,show ¬ (kn:Int)<0 by omega,decide_eq_false (show ¬ (kn:Int)<0 by omega),show (x.2.2.1.length:Int)≤kn by omega,decide_eq_true (show (x.2.2.1.length:Int)≤kn by omega),show x.2.2.1.length≤kn by omega]
  refine call_step (kcopy) ?_
  simp[enGr]
  exact⟨[],by simp⟩
 by_cases h12:x.2.1.length=12
 case pos =>
  obtain⟨rfl,hGx⟩:=hno (by rw[hfr0,decide_eq_false (show ¬ x.2.1.length<12 by omega)];simp)
  rw[hGx]
  refine call_step (kok) ?_
  simp[enGr,show ¬ (kn:Int)<0 by omega,decide_eq_false (show ¬ (kn:Int)<0 by omega),show ¬ (x.2.2.1.length:Int)≤kn by omega,decide_eq_false (show ¬ (x.2.2.1.length:Int)≤kn by omega),show ¬ x.2.2.1.length≤kn by omega,h12]
  refine call_step (kcopy) ?_
  simp[enGr]
  exact⟨[],by simp⟩
 have h12b:((x.2.1.length:Int)==12)=false:=by simpa using (by omega:¬ (x.2.1.length:Int)=12)
 obtain⟨ha1,-⟩:=andK_at (x:=x) (k:=(kn:Int)) (by omega)
 rw[Int.toNat_natCast] at ha1
 obtain⟨hr1,hr2⟩:=andK_rng hok (k:=(kn:Int)) (by omega)
 have kfa:=sFlop_con x (andK x (kn:Int)).1 ⟨n1,n2⟩ n3 (by omega)
 have kfb:=sFlop_con x (andK x (kn:Int)).2 ⟨n1,n2⟩ n3 (by omega)
 have hLA:(enAnd (andK x (kn:Int))).length=2:=rfl
 refine call_step (kok) ?_
 simp[enGr,show ¬ (kn:Int)<0 by omega,decide_eq_false (show ¬ (kn:Int)<0 by omega),show ¬ (x.2.2.1.length:Int)≤kn by omega,decide_eq_false (show ¬ (x.2.2.1.length:Int)≤kn by omega),show ¬ x.2.2.1.length≤kn by omega,h12,h12b,ha1,hLA,enAnd]
 refine call_step (kfa) ?_
 simp[enGr]
 by_cases hfa0:0≤flopL x (andK x (kn:Int)).1
 case neg =>
  obtain⟨hO2,hGx⟩:=hno (by rw[hfr0,decide_eq_false hfa0];simp)
  rw[hO2,hGx]
  refine call_step (kfb) ?_
  simp[enGr,show flopL x (andK x (kn:Int)).1<0 by omega,decide_eq_true (show flopL x (andK x (kn:Int)).1<0 by omega)]
  refine call_step (kcopy) ?_
  simp[enGr]
  exact⟨[],by simp⟩
 have da:=decide_eq_false (show ¬ flopL x (andK x (kn:Int)).1<0 by omega)
 have na:¬ flopL x (andK x (kn:Int)).1<0:=by omega
 by_cases hfb0:0≤flopL x (andK x (kn:Int)).2
 case neg =>
  obtain⟨hO2,hGx⟩:=hno (by rw[hfr0,decide_eq_false hfb0];simp)
  rw[hO2,hGx]
  refine call_step (kfb) ?_
  simp[enGr,na,da,show flopL x (andK x (kn:Int)).2<0 by omega,decide_eq_true (show flopL x (andK x (kn:Int)).2<0 by omega)]
  refine call_step (kcopy) ?_
  simp[enGr]
  exact⟨[],by simp⟩
 have db:=decide_eq_false (show ¬ flopL x (andK x (kn:Int)).2<0 by omega)
 have nb:¬ flopL x (andK x (kn:Int)).2<0:=by omega
 refine call_step (kfb) ?_
 simp[enGr,na,da,nb,db]
 have hfront:frontB x (kn:Int)=true:=by rw[hfr0,decide_eq_true (show 0≤(kn:Int)∧(kn:Int)<x.2.2.1.length by omega),decide_eq_true hfa0,decide_eq_true hfb0,decide_eq_true (show x.2.1.length<12 by omega)];rfl
 rw[hfront,Bool.true_and] at hO
 clear hfr0 hno na da nb db
 obtain⟨ra1,ra2,-⟩:=flopL_rng (x:=x) (l:=(andK x (kn:Int)).1)
 obtain⟨rb1,rb2,-⟩:=flopL_rng (x:=x) (l:=(andK x (kn:Int)).2)
 obtain⟨qa,hqa,qa1,qa2,ia1,ia2⟩:=flop_in hok hfa0
 obtain⟨qb,hqb,qb1,qb2,ib1,ib2⟩:=flop_in hok hfb0
 have hini:fwdInit x (kn:Int)=and64 (xor64 (seqAt x (flopL x (andK x (kn:Int)).1).toNat).2.1 ((andK x (kn:Int)).1 % 2)) (xor64 (seqAt x (flopL x (andK x (kn:Int)).2).toNat).2.1 ((andK x (kn:Int)).2 % 2)):=rfl
 have m1:and64 (andK x (kn:Int)).1 1=(andK x (kn:Int)).1 % 2:=and64_one _
 have m2:and64 (andK x (kn:Int)).2 1=(andK x (kn:Int)).2 % 2:=and64_one _
 obtain⟨hmok,hmF⟩:=fwdM_ok hfront
 have hbeg:((x.1,x.2.1.map zeroSeq++begS [fwdInit x (kn:Int)],[],[]):GrD)=fwdM x (kn:Int):=rfl
 have kbeg:=l15Begin_con x [fwdInit x (kn:Int)] hx ⟨n1,n2⟩ n3 (by simp)
 rw[hbeg] at kbeg
 have hImp:impR x (firstG (fwdM x (kn:Int))) (kn:Int) (2*(firstG x:Int)) (leafL (firstG x)) (fwdM x (kn:Int)).2.2.1 x.2.2.1.length=fwdImp x (kn:Int):=by rw[hmF];rfl
 have hI0:=fwdImp_ok hfront 0 (Nat.zero_le _)
 have kand:=l15Ands_conT (fwdM x (kn:Int)) x (leafL (firstG x)) (kn:Int) (2*(firstG x:Int)) _ hmok hok (by rw[hmF];exact hI0) (by rw[hmF];omega) rfl
 rw[hImp] at kand
 have hIk:=fwdImp_ok hfront x.2.2.1.length (Nat.le_refl _)
 change ImpOk _ _ (fwdImp x (kn:Int)) at hIk
 have hla:=fwdLit_rng hfront (l:=(andK x (kn:Int)).1)
 have hlb:=fwdLit_rng hfront (l:=(andK x (kn:Int)).2)
 have hlv:∀ l:Int,fwdLit x (kn:Int) l=xor64 (plMapV (fwdImp x (kn:Int)).1 (((seqAt x (flopL x l).toNat).2.2[0]?).getD 0)) (l % 2):=fun l=>rfl
 have hvv:fwdV x (kn:Int)=addV (firstG x+1:Nat) (fwdImp x (kn:Int)).2.1 (fwdLit x (kn:Int) (andK x (kn:Int)).1) (fwdLit x (kn:Int) (andK x (kn:Int)).2):=rfl
 have hGv:fwdG x (kn:Int)=(x.1,x.2.1.map (mapSeq (fwdImp x (kn:Int)).1)++[(0,fwdInit x (kn:Int),[fwdV x (kn:Int)])],addN (fwdImp x (kn:Int)).2.1 (fwdLit x (kn:Int) (andK x (kn:Int)).1) (fwdLit x (kn:Int) (andK x (kn:Int)).2),x.2.2.2.map (plMapV (fwdImp x (kn:Int)).1)):=rfl
 have hlav:=hlv (andK x (kn:Int)).1
 have hlbv:=hlv (andK x (kn:Int)).2
 rw[hqa] at hlav
 rw[hqb] at hlbv
 simp only[List.getElem?_cons_zero,Option.getD_some] at hlav hlbv
 have hsa:=(seqAt_mem (x:=x) (i:=(flopL x (andK x (kn:Int)).1).toNat) (by omega)).1
 have hsb:=(seqAt_mem (x:=x) (i:=(flopL x (andK x (kn:Int)).2).toNat) (by omega)).1
 have hLsa:(enSeq (seqAt x (flopL x (andK x (kn:Int)).1).toNat)).length=3:=rfl
 have hLsb:(enSeq (seqAt x (flopL x (andK x (kn:Int)).2).toNat)).length=3:=rfl
 have hla':=fun h=>hla h hfa0
 have hlb':=fun h=>hlb h hfb0
 clear hlv hla hlb
 have wo:IntKind.i64.wrap (2*(1+x.1+(x.2.1.length:Int)))=2*(firstG x:Int):=by rw[wrap_id (by omega) (by omega)];omega
 generalize fwdV x (kn:Int)=vv at *
 generalize fwdLit x (kn:Int) (andK x (kn:Int)).1=la at *
 generalize fwdLit x (kn:Int) (andK x (kn:Int)).2=lb at *
 generalize flopL x (andK x (kn:Int)).1=fa at *
 generalize flopL x (andK x (kn:Int)).2=fb at *
 obtain⟨fan,rfl⟩:∃ n:Nat,fa=n:=⟨fa.toNat,by omega⟩
 obtain⟨fbn,rfl⟩:∃ n:Nat,fb=n:=⟨fb.toNat,by omega⟩
 simp only[Int.toNat_natCast] at hqa hqb hsa hsb hLsa hLsb hini ia1 ia2 ib1 ib2
 generalize andK x (kn:Int)=A at *
 generalize seqAt x fan=sa at *
 generalize seqAt x fbn=sb at *
 obtain⟨lf,hlfe⟩:∃ lf,leafL (firstG x)=lf:=⟨_,rfl⟩
 rw[hlfe] at kbeg kand
 refine drawE_of [(26,[24]),(27,[])] (by kernel_rfl) ?_
 simp[hsa,hsb,hLsa,hLsb,enSeq,m1,m2,←hini,enGr]
 refine call_step (kbeg) ?_
 simp[enGr]
 obtain⟨⟨to,an,ok⟩,hR⟩:∃ q,fwdImp x (kn:Int)=q:=⟨_,rfl⟩
 rw[hR] at kand hIk hla' hlb' hvv hGv hlav hlbv hO
 simp only at kand hla' hlb' hvv hGv hlav hlbv hO
 generalize hcd:decide (to.length≠lf.length)=cc at kand
 cases ok with
 | false =>
   have hO2:O=false:=by rw[hO,Bool.false_and]
   rw[hO2,hno' hO2]
   cases cc with
   | true =>
     simp only[if_true] at kand
     refine drawB_of 8 (by kernel_rfl) (drawD1_of 7 (by kernel_rfl) ?_)
     simp[headA_list,enGr]
     refine call_step (sFirst_con x ⟨n1,n2⟩ n3) ?_
     simp[wo]
     refine callT_step (kand) [3,4,5] [6] (by simp) ?_
     simp[withA]
     refine drawE1_of [(4,[2,3]),(5,[3]),(6,[])] (by kernel_rfl) ?_
     simp[tailA_list,shiftO_mk,enGr]
     refine call_step (kcopy) ?_
     simp[enGr]
     exact⟨[],by simp⟩
   | false =>
     simp only[Bool.false_eq_true,if_false] at kand
     refine drawB_of 8 (by kernel_rfl) (drawD1_of 7 (by kernel_rfl) ?_)
     simp[headA_list,enGr]
     refine call_step (sFirst_con x ⟨n1,n2⟩ n3) ?_
     simp[wo]
     refine callT_step (kand) [3,4,5] [6] (by simp) ?_
     simp[withA]
     refine drawE1_of [(4,[2,3]),(5,[3]),(6,[])] (by kernel_rfl) ?_
     simp[tailA_list,shiftO_mk,enGr]
     refine call_step (kcopy) ?_
     simp[enGr]
     exact⟨[],by simp⟩
 | true =>
 have hto:to.length=grN x:=by have:=hIk.len;rw[hIk.len rfl];omega
 have hlf:lf.length=firstG x:=by rw[←hlfe];exact leafL_len
 obtain rfl:cc=true:=by rw[←hcd];simp;omega
 simp only[if_true] at kand
 obtain⟨la1,la2,-,-⟩:=hla' rfl
 obtain⟨lb1,lb2,-,-⟩:=hlb' rfl
 have hn3:=hIk.an
 simp only at hn3
 have kmap:=l10Map_con to [qa,qb] (by omega) (by simp) (fun l hl=>by
  simp only[List.mem_cons,List.not_mem_nil,or_false] at hl
  rcases hl with rfl|rfl<;>omega)
 simp only[List.map_cons,List.map_nil] at kmap
 have hmA:netOkB (withA (fwdM x (kn:Int)) an)=true:=netOk_withA hmok (by simp[fwdM]) hn3 (by rw[hmF];exact hIk.ok)
 have hgA:(grN (withA (fwdM x (kn:Int)) an):Int)=((firstG x+1:Nat):Int)+an.length:=by rw[grN_withA,hmF];omega
 have kadd:=sAddAnd_con (withA (fwdM x (kn:Int)) an) la lb hmA (by omega) (by omega)
 rw[sAddL_ok (by omega) (by omega)] at kadd
 rw[show firstG (withA (fwdM x (kn:Int)) an)=firstG x+1 from hmF,show (withA (fwdM x (kn:Int)) an).2.2.1=an from rfl,←hvv] at kadd
 refine drawB_of 8 (by kernel_rfl) (drawD1_of 7 (by kernel_rfl) ?_)
 simp[headA_list,enGr]
 refine call_step (sFirst_con x ⟨n1,n2⟩ n3) ?_
 simp[wo]
 refine callT_step (kand) [3,4,5] [6] (by simp) ?_
 simp[withA]
 refine drawE1_of [(4,[2,3]),(5,[3]),(6,[])] (by kernel_rfl) ?_
 simp[tailA_list,shiftO_mk,enGr]
 refine drawD_of 20 (by kernel_rfl) ?_
 simp[hsa,hsb,hLsa,hLsb,enSeq,hqa,hqb]
 refine call_step (kmap) ?_
 simp
 refine drawE_of [(17,[16]),(18,[])] (by kernel_rfl) ?_
 simp[m1,m2,←hlav,←hlbv]
 by_cases hv:vv<0
 · have hO2:O=false:=by rw[hO];simp;omega
   rw[hO2,hno' hO2]
   refine call_step (kadd) ?_
   simp[withA,enGr,hv,decide_eq_true hv]
   refine call_step (kcopy) ?_
   simp[enGr]
   exact⟨[],by simp⟩
 have hO2:O=true:=by rw[hO];simp;omega
 have hG2:G=fwdG x (kn:Int):=by rw[←hG,hO2];simp
 rw[hO2,hG2,hGv]
 refine call_step (kadd) ?_
 simp[withA,enGr,hv,decide_eq_false hv,show 0≤vv by omega]
 have hlS:∀ s∈x.2.1,litsAt to.length s.2.2:=fun s hs l hl=>by
  have:=o2 l (List.mem_append_right _ (List.mem_flatten.2 ⟨_,List.mem_map.2 ⟨s,hs,rfl⟩,hl⟩))
  omega
 have hlO:litsAt to.length x.2.2.2:=fun l hl=>by
  have:=o2 l (outs_root hl)
  omega
 obtain⟨ini,hinie⟩:∃ ini,fwdInit x (kn:Int)=ini:=⟨_,rfl⟩
 have hM:fwdM x (kn:Int)=(x.1,x.2.1.map zeroSeq++[(0,ini,[0])],[],[]):=by rw[←hinie];rfl
 rw[hM,hinie]
 simp only
 rw[←stF_zero (pl:=to)]
 refine aw_loopU [false,false,true,false,true,false,false,false,false,false,true,true,false,false,true,true,false,false,false,false,false,false,false,false,false,false,false,false,false,false,false,false,false,false,false,false,false,false,false,false,false,false,false,false,false,false,false,false,false,false,false,false,false,false,false,false,false,false,false,false,false,false,false,false,false,false,false,false,false,false,false,false,false,false,false,false,false,false,false,false,false,false,false,false,false,false,false,false,false,false,false,false,false,false,false,false,false,false,false,false,false,false,false,false,false,false,false,false,false,false,false,false,false,false,false,false,false,false,false,false,false,false,false,false,false,false,false,false,false,false,false,false,false,false,false,false,false,false,false,false,false,false,false,false,false,false,false,false,false,false,false,false,false,false,false,false,false,false,false,false,false,false,false,false,false,false,false,false,false,false,false,false,false,false,false,false,false,false,false,false] (fun i:Nat=>i≤x.2.1.length) (fun i:Nat=>[(15,.d (.int .i64 i))]) (fun i:Nat=>[(11,.arr 31 true ((stF x to (0,ini,[0]) i).map enSeq))]) (fun i:Nat=>x.2.1.length - i) 0 ?_ ?_ ?_
 · exact Nat.zero_le _
 · exact⟨[0,1,2,3,4,5,6,7,8,9,10,11,12,13],by simp⟩
 rintro I S μ hI hS hμ i hi
 have hzl:=stF_len (x:=x) (pl:=to) (fl:=(0,ini,[0])) (i:=i)
 by_cases hlt:i<x.2.1.length
 · obtain⟨s,hx1⟩:∃ s,x.2.1[i]? = some s:=⟨_,List.getElem?_eq_getElem hlt⟩
   have hat:=stF_at (pl:=to) (fl:=(0,ini,[0])) hx1
   have hset:=stF_set (pl:=to) (fl:=(0,ini,[0])) hx1
   have hmem:=List.mem_of_getElem? hx1
   have hL:(enSeq s).length=3:=rfl
   have hL2:(enSeq (zeroSeq s)).length=3:=rfl
   have km:=l10Map_con to s.2.2 (by omega) (f2 s hmem) (hlS s hmem)
   have w2:IntKind.i64.wrap ((i:Int)+1)=(i:Int)+1:=wrap_id (by omega) (by omega)
   have hse:((stF x to (0,ini,[0]) i).map enSeq).set i [D.int .i64 s.1,D.int .i64 s.2.1,D.sl 3 (s.2.2.map (e1 eInt ∘ plMapV to))]=(stF x to (0,ini,[0]) (i+1)).map enSeq:=by
    rw[←hset,List.map_set]
    simp[enSeq,e3,eInt,eSl,mapSeq]
   generalize hz2:stF x to (0,ini,[0]) (i+1)=z2 at *
   generalize stF x to (0,ini,[0]) i=z1 at *
   clear hset
   simp[decide_eq_true hlt]
   refine drawD_of 11 (by kernel_rfl) ?_
   simp[hx1,hL,enSeq]
   refine call_step (km) ?_
   simp[hat,hL2,enSeq,zeroSeq,w2]
   exact round_of hI hS hμ (i+1) (by omega) (by omega) ⟨[0,1,2,3,4,5,6,7,8,9,10,11,12,13],by simp[hz2,hse]⟩
 · obtain rfl:i=x.2.1.length:=by omega
   have km:=l10Map_con to x.2.2.2 (by omega) f4 hlO
   have hs21:((x.2.1.map (mapSeq to)++[((0:Int),ini,[(0:Int)])]).map enSeq).set x.2.1.length [D.int .i64 0,D.int .i64 ini,D.sl 3 [[D.int .i64 vv]]]=(x.2.1.map (mapSeq to)++[(0,ini,[vv])]).map enSeq:=by
    rw[List.map_append,List.map_append,List.set_append_right _ _ (by simp)]
    simp[enSeq,e3,eInt,eSl,e1]
   have hat:(x.2.1.map (mapSeq to)++[((0:Int),ini,[(0:Int)])])[x.2.1.length]? = some (0,ini,[0]):=by rw[List.getElem?_append_right (by simp)];simp
   rw[stF_all] at hzl ⊢
   generalize hw1:x.2.1.map (mapSeq to)++[((0:Int),ini,[(0:Int)])]=w1 at *
   generalize hw2:x.2.1.map (mapSeq to)++[(0,ini,[vv])]=w2 at *
   simp[hlt,decide_eq_false hlt,hat,enSeq,hs21]
   refine call_step (km) ?_
   simp
   exact⟨[],by simp⟩
end Go.Proofs.Ytnjedabjbeipeaa
