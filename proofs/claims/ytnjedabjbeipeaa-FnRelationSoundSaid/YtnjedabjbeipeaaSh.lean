/-
  Two nets and links as they are drawn. Plain definitions and abstract walks.
  Conditions: those typed in each theorem.
-/
import Derived.Test.YtnjedabjbeipeaaSg
import Derived.Test.YtnjedabjbeipeaaUh
import Derived.Test.YtnjedabjbeipeaaKg
import Derived.Test.YtnjedabjbeipeaaRh
namespace Go.Proofs.Ytnjedabjbeipeaa
open Go.RowKit Go.ChangeShapes Go.WideShapes
set_option linter.unusedVariables false
set_option linter.unusedSimpArgs false
attribute [local simp ↓] condG_true condG_false condB_true condB_false
attribute [local simp] AWp_skip AWp_region_t AWp_region_d AWp_region_f still_mk AWp_seq AWp_cond condV_bool condB AWp_block AWp_exit AWp_ret
attribute [local simp] AOps_nil AOp_move AOp_assign AOp_pick AOp_binOp AOp_unOp AOp_convert AOp_len AOp_max AOp_min AOp_indexAddr AOp_load
attribute [local simp] AOp_fieldAddr AOp_field AOp_extract AOp_nilCheck AOp_build AOp_alloc AOp_box AOp_call AOp_store AOp_append AOp_buildSlice nextB_some
attribute [local simp] nextB_none adoptO adoptC AOp_makeSlice AOp_slice AOp_makeFunc AOp_guard guardD_some guardG_bool guardG_undef nextO_some nextS_some
attribute [local simp] nextZ_some nextL_some nextM_some nextT_some sliceO sliceL sliceT partO partV boundV funcO pickO
attribute [local simp] convO lenO maxO minO idxO extO nilO buildO litO litC makeO chunks
attribute [local simp] fillV placeOf thenA inBlockA St.get St.put St.eval ofCell evalT abin_add abin_sub abin_mul
attribute [local simp] abin_quo abin_rem abin_and abin_or abin_xor abin_andNot abin_shl abin_shr abin_shlu abin_eql abin_eqp abin_neq
attribute [local simp] abin_lss abin_leq abin_gtr abin_geq abin_eqlb abin_neqb aun pickV lenV intOf? indexV takeD
attribute [local simp] takeV loadV fieldAddrV fieldV ofX presD presDs pres presAll cellsV V.cell storeV
attribute [local simp] freezeC putAt kill takeC plains plainV scalarV nat_neg keepT sets eSl e1
attribute [local simp] e2 e3 e4 eInt eBool abinS_d abinS_agg abinS nilEq abin_eqb AOp_makeMap AOp_lookup
attribute [local simp] AOp_mapUpdate lookG_some updG_some mapV kyOf vlOf lookV vlV buildA afterCall inst inst1
attribute [local simp] inst1s instD instDs RetA resVs resV gives give1 give1s Le isPin leSlots
attribute [local simp] leS leTmps leV le0 le0s ren ren0 renS ren0s frame enterT afterT_some
attribute [local simp] afterC_some lives Slot.live arrsOk viewV view0 renT rens renSs setAll List.range'_succ RetT
attribute [local simp] RetW joinV leT AOpsE_nil AOpsE_cons AOpsT_nil AOpsT_cons isCallT isFnO callOf callVC_fn condC_true
attribute [local simp] condC_false beginT_mk beginX_mk AOpsX_zero thenT_mk pickE pickT isT loose namesOf namesV names1
attribute [local simp] names0 stableN sameAt Op.operands Call.operands
set_option maxRecDepth 100000 in
theorem sRetime_conT (x:GrD) (k:Int) (hx:fitGr 1048576 x) (hg:okGr x):ConT Try.prog 94 [vgr x,.d (.int .i64 k)] [] (.tup [vgr (if fwdOkB x k=true then pruneG (fwdG x k) else x),.d (.bool (fwdOkB x k))]) []:=by
 have k1:=sForward_conT x k hx hg
 have k3:=fun h:fwdOkB x k=true=>sPrune_conT (fwdG x k) (fitGr_netOk (fwdG_ok h)) (fwdG_ok h)
 refine conT_ofD (by kernel_rfl) Try.func94 rfl rfl rfl (by simp[laters,Later]) (by simp[lives,Slot.live]) ?_
 cases hb:fwdOkB x k with
 | false =>
   rw[hb] at k1
   simp only[Bool.false_eq_true,if_false] at k1 ⊢
   simp
   refine callT_step (k1) [] [] (by simp) ?_
   simp
   exact⟨[],by simp⟩
 | true =>
   have k3:=k3 hb
   rw[hb] at k1
   simp only[if_true] at k1 ⊢
   simp
   refine callT_step (k1) [] [] (by simp) ?_
   simp
   refine callT_step (k3) [] [] (by simp) ?_
   simp
   exact⟨[],by simp⟩
theorem frG_al (c:Cur):(frG c).2.2.1.length≤10:=by
 obtain⟨h1,h2,h3⟩:=fls_nums c
 have lA:(qzPA c).2.length=qzAn c:=drA_len _
 have h:=frI_len (x:=flsG c) (c:=flsC c) (frN (flsG c))
 show (frI (flsG c) (flsC c) (frN (flsG c))).2.length≤10
 rw[h]
 show (qzPA c).2.length≤10
 omega
abbrev RlD:Type:=GrD×List LinkD×Cur
noncomputable def rl1 (a:GrD) (c:Cur):RlD :=
 if onceV c 2=true∧0<a.2.2.1.length then
  if fwdOkB a (belowV (belowC c 2) a.2.2.1.length)=true then (pruneG (fwdG a (belowV (belowC c 2) a.2.2.1.length)),fwdLk a (belowV (belowC c 2) a.2.2.1.length),belowC (belowC c 2) a.2.2.1.length)
  else (pruneG a,lkP (keptG a),belowC (belowC c 2) a.2.2.1.length)
 else (pruneG a,lkP (keptG a),belowC c 2)
def mxQ (a:GrD):Int:=if 1<(a.2.1.length:Int) then (a.2.1.length:Int) else 1
def rl20 (r:RlD) (c:Cur):RlD:=(r.1,r.2.1++[([placeV c 4],belowV (placeC c 4) 6 - 1)],belowC (placeC c 4) 6)
def rl21 (a:GrD) (r:RlD) (c:Cur):RlD:=if r.2.1.length=0 then (r.1,r.2.1,c) else (r.1,r.2.1.set 0 ([belowV c (mxQ a)],belowV (belowC c (mxQ a)) 4),belowC (belowC c (mxQ a)) 4)
def rl2 (a:GrD) (r:RlD):RlD :=
 if belowV r.2.2 8=0 then rl20 r (belowC r.2.2 8) else if belowV r.2.2 8=1 then rl21 a r (belowC r.2.2 8) else if belowV r.2.2 8=2 then ((anyP (belowC r.2.2 8)).1,r.2.1,(anyP (belowC r.2.2 8)).2) else (r.1,r.2.1,belowC r.2.2 8)
noncomputable def relD (c:Cur):RlD:=rl2 (frG c) (rl1 (frG c) (frC c))
theorem rl1_ok {a:GrD} {c:Cur} (h:c.ok):(rl1 a c).2.2.ok:=by
 unfold rl1
 split
 · split
   · exact belowC_ok (belowC_ok h)
   · exact belowC_ok (belowC_ok h)
 · exact belowC_ok h
theorem rl1_fit {a:GrD} {c:Cur} (hok:netOkB a=true):netOkB (rl1 a c).1=true∧(rl1 a c).2.1.length≤13∧∀ l∈(rl1 a c).2.1,l.1.length≤4:=by
 have q1:netOkB (pruneG a)=true:=pruneG_ok hok
 have q2:(lkP (keptG a)).length≤13∧∀ l∈lkP (keptG a),l.1.length≤4:=by
  have h1:=kept_len hok
  have h2:=(netOk_of q1).1.2.2.1
  refine⟨by unfold lkP;rw[List.length_map];omega,fun l hl=>?_⟩
  obtain⟨i,_,rfl⟩:=List.mem_map.1 hl
  simp
 unfold rl1
 split
 · generalize belowV (belowC c 2) a.2.2.1.length=k
   split
   · rename_i hf
     have hof:=fwdG_ok hf
     have h1:=kept_len hof
     have h2:=(netOk_of (pruneG_ok hof)).1.2.2.1
     refine⟨pruneG_ok hof,?_,fun l hl=>?_⟩
     · unfold fwdLk
       rw[if_pos hf,List.length_map]
       omega
     · have hl':l∈(keptG (fwdG a k)).map (lkOf a k):=by
        have e:fwdLk a k=(keptG (fwdG a k)).map (lkOf a k):=if_pos hf
        rw[←e];exact hl
       obtain⟨i,_,rfl⟩:=List.mem_map.1 hl'
       unfold lkOf
       split<;>simp
   · exact⟨q1,q2⟩
 · exact⟨q1,q2⟩
theorem rl2_fit {a:GrD} {r:RlD} (h:netOkB r.1=true∧r.2.1.length≤13∧∀ l∈r.2.1,l.1.length≤4):tame (rl2 a r).1∧(rl2 a r).2.1.length≤14∧∀ l∈(rl2 a r).2.1,l.1.length≤4:=by
 obtain⟨h1,h2,h3⟩:=h
 have ht:tame r.1:=by
  obtain⟨⟨n1,n2,n3,n4,n5,n6⟩,o1,o2,o3⟩:=netOk_of h1
  exact⟨⟨by omega,fun s hs=>by have:=seqOk_len (o1 s hs);omega,by omega,by omega⟩,okGr_netOk h1⟩
 unfold rl2
 split
 · refine⟨ht,by simp[rl20];omega,fun l hl=>?_⟩
   rcases List.mem_append.1 (show l∈r.2.1++[([placeV (belowC r.2.2 8) 4],belowV (placeC (belowC r.2.2 8) 4) 6 - 1)] from hl) with hl|hl
   · exact h3 l hl
   · rw[List.mem_singleton.1 hl];simp
 split
 · unfold rl21
   split
   · exact⟨ht,by simp only;omega,h3⟩
   · refine⟨ht,by simp;omega,fun l hl=>?_⟩
     rcases List.mem_or_eq_of_mem_set hl with hl|rfl
     · exact h3 l hl
     · simp
 split
 · exact⟨anyP_tame,by simp only;omega,h3⟩
 · exact⟨ht,by simp only;omega,h3⟩
set_option maxRecDepth 100000 in
set_option maxHeartbeats 8000000 in
theorem l15NetD_conT (c:Cur) (h:c.ok):ConT Try.prog 28 [.ptr 0 0] [enCur c] (vgr (frG c)) [enCur (frC c)]:=by
 have k1:=l08Fls_conT c h
 have hok:=flsG_ok (c:=c)
 have hC:=flsC_ok h
 obtain⟨b1,b2,b3⟩:=fls_nums c
 have lS:(flsG c).2.1.length=qzSq c:=drS_len _
 have lA:(flsG c).2.2.1.length=qzAn c:=drA_len _
 have hI:(flsG c).1=qzIn c:=rfl
 unfold frG frC
 generalize flsG c=x at *
 generalize flsC c=c1 at *
 obtain⟨I,sq,an,os⟩:=x
 have hfl:=fun i=>frI_len (x:=(I,sq,an,os)) (c:=c1) i
 have hfo:=fun i=>frI_ok (x:=(I,sq,an,os)) hC i
 simp only at lS lA hI hfl
 rw[←hI] at b1
 clear hI
 obtain⟨b0,b1⟩:=b1
 refine conT_ofD (by kernel_rfl) Try.func28 rfl rfl rfl (by simp[laters,Later]) (by simp[lives,Slot.live]) ?_
 by_cases hs0:sq=[]
 · by_cases ha0:an=[]
   · subst hs0
     subst ha0
     simp only[sqV,sqS,anV,anS,frX,frN,List.length_nil,if_true,frI] at k1 ⊢
     simp
     refine callT_step (k1) [] [0] (by simp) ?_
     simp
     refine aw_loopN [true,false,true,true,true,false,false,false,false,false,false,false,false,false,false,false,false,false,false,false,false,false,false,false,false,false,false,false,false,false,false,false,false,false,false,false,false,false,false,false,false,false,false,false,false,false,false,false,false] (fun i:Nat=>i≤0) (fun i:Nat=>[(4,.d (.int .i64 i))]) (fun i:Nat=>fun _=>[enCur c1,.var 28 [.d (.int .i64 0),.nil 31,.nil 60,.nil 3],.var 28 [.d (.int .i64 I),.nil 31,.nil 60,.d (eSl 3 (e1 eInt) os)]]) (fun i:Nat=>0) 0 ?_ ?_ ?_
     · exact Nat.zero_le _
     · exact⟨[0,1,2],by simp⟩
     rintro I' S μ hI hS hμ i hi
     obtain rfl:i=0:=by omega
     simp
     exact⟨[0],by simp[frI]⟩
   · subst hs0
     have han:¬ an.length=0:=fun h=>ha0 (List.eq_nil_of_length_eq_zero h)
     simp only[sqV,sqS,anV,anS,frX,frN,List.length_nil,if_true,frI,if_neg han] at k1 ⊢
     simp
     refine callT_step (k1) [] [0] (by simp) ?_
     simp
     refine aw_loopN [true,false,true,true,true,false,false,false,false,false,false,false,false,false,false,false,false,false,false,false,false,false,false,false,false,false,false,false,false,false,false,false,false,false,false,false,false,false,false,false,false,false,false,false,false,false,false,false,false] (fun i:Nat=>i≤0) (fun i:Nat=>[(4,.d (.int .i64 i))]) (fun i:Nat=>fun _=>[enCur c1,.var 28 [.d (.int .i64 0),.nil 31,.nil 60,.nil 3],.arr 60 true (an.map enAnd),.var 28 [.d (.int .i64 I),.nil 31,.ref 2,.d (eSl 3 (e1 eInt) os)]]) (fun i:Nat=>0) 0 ?_ ?_ ?_
     · exact Nat.zero_le _
     · exact⟨[0,1,2,3],by simp⟩
     rintro I' S μ hI hS hμ i hi
     obtain rfl:i=0:=by omega
     simp[decide_eq_true (show 0<an.length by omega)]
     exact⟨[0],by simp[frI]⟩
 · by_cases ha0:an=[]
   · have hsn:¬ sq.length=0:=fun h=>hs0 (List.eq_nil_of_length_eq_zero h)
     subst ha0
     simp only[sqV,sqS,anV,anS,frX,frN,List.length_nil,if_true,frI,if_neg hsn] at k1 ⊢
     simp
     refine callT_step (k1) [] [0] (by simp) ?_
     simp
     refine aw_loopN [true,false,true,true,true,false,false,false,false,false,false,false,false,false,false,false,false,false,false,false,false,false,false,false,false,false,false,false,false,false,false,false,false,false,false,false,false,false,false,false,false,false,false,false,false,false,false,false,false] (fun i:Nat=>i≤0) (fun i:Nat=>[(4,.d (.int .i64 i))]) (fun i:Nat=>fun _=>[enCur c1,.var 28 [.d (.int .i64 0),.nil 31,.nil 60,.nil 3],.arr 31 true (sq.map enSeq),.var 28 [.d (.int .i64 I),.ref 2,.nil 60,.d (eSl 3 (e1 eInt) os)]]) (fun i:Nat=>0) 0 ?_ ?_ ?_
     · exact Nat.zero_le _
     · exact⟨[0,1,2,3],by simp⟩
     rintro I' S μ hI hS hμ i hi
     obtain rfl:i=0:=by omega
     simp
     exact⟨[0],by simp[frI]⟩
   · have hsn:¬ sq.length=0:=fun h=>hs0 (List.eq_nil_of_length_eq_zero h)
     have han:¬ an.length=0:=fun h=>ha0 (List.eq_nil_of_length_eq_zero h)
     simp only[sqV,sqS,anV,anS,frX,frN,List.length_nil,if_true,if_neg hsn,if_neg han] at k1 ⊢
     simp
     refine callT_step (k1) [] [0] (by simp) ?_
     simp
     refine aw_loopN [true,false,true,true,true,false,false,false,false,false,false,false,false,false,false,false,false,false,false,false,false,false,false,false,false,false,false,false,false,false,false,false,false,false,false,false,false,false,false,false,false,false,false,false,false,false,false,false,false] (fun i:Nat=>i≤an.length) (fun i:Nat=>[(4,.d (.int .i64 i))]) (fun i:Nat=>fun _=>[enCur (frI (I,sq,an,os) c1 i).1,.var 28 [.d (.int .i64 0),.nil 31,.nil 60,.nil 3],.arr 31 true (sq.map enSeq),.arr 60 true ((frI (I,sq,an,os) c1 i).2.map enAnd),.var 28 [.d (.int .i64 I),.ref 2,.ref 3,.d (eSl 3 (e1 eInt) os)]]) (fun i:Nat=>an.length - i) 0 ?_ ?_ ?_
     · exact Nat.zero_le _
     · exact⟨[0,1,2,3,4],by simp[frI]⟩
     rintro I' S μ hI hS hμ i hi
     have hst:=frI_succ (x:=(I,sq,an,os)) (c:=c1) (i:=i)
     have hll:=hfl i
     have hok1:=hfo i
     by_cases hlt:i<an.length
     · obtain⟨P2,hP2⟩:∃ P2,frI (I,sq,an,os) c1 (i+1)=P2:=⟨_,rfl⟩
       rw[hP2] at hst
       simp only at hst
       generalize frI (I,sq,an,os) c1 i=P1 at *
       obtain⟨cp,al⟩:=P1
       obtain⟨cp2,al2⟩:=P2
       simp only at hst hll hok1
       have q1:=l01Once_conT cp 2 hok1 (by omega)
       have okb:=belowC_ok (n:=2) hok1
       generalize belowC cp 2=d1 at *
       have hs4:(sq.length:Int)≤4:=by omega
       have hs1:0<sq.length:=by omega
       have w2:IntKind.i64.wrap ((i:Int)+1)=((i+1:Nat):Int):=by rw[wrap_id (by omega) (by omega)];omega
       cases ho:onceV cp 2 with
       | false =>
         rw[ho,if_neg (by simp)] at hst
         obtain⟨rfl,rfl⟩:=Prod.mk.inj hst
         rw[ho] at q1
         simp[decide_eq_true hlt,hll,decide_eq_true hs1]
         refine callT_step (q1) [] [0] (by simp) ?_
         simp[w2]
         exact round_of hI hS hμ (i+1) (by omega) (by omega) ⟨[0,1,2,3,4],by simp[hP2]⟩
       | true =>
         rw[ho,if_pos rfl] at hst
         obtain⟨rfl,ha2⟩:=Prod.mk.inj hst
         rw[ho] at q1
         have w3:IntKind.i64.wrap (1+I)=1+I:=wrap_id (by omega) (by omega)
         have w4:IntKind.i64.wrap (2*(1+I))=2*(1+I):=wrap_id (by omega) (by omega)
         have w5:IntKind.i64.wrap (2*(sq.length:Int))=2*(sq.length:Int):=wrap_id (by omega) (by omega)
         have q2:=l01Below_conT d1 (2*(sq.length:Int)) okb (by omega)
         have r1:=belowV_rng d1 (n:=2*(sq.length:Int)) (by omega)
         have okc:=belowC_ok (n:=2*(sq.length:Int)) okb
         generalize belowC d1 (2*(sq.length:Int))=d2 at *
         generalize belowV d1 (2*(sq.length:Int))=z1 at *
         have q3:=l01Below_conT d2 (2*(sq.length:Int)) okc (by omega)
         have r2:=belowV_rng d2 (n:=2*(sq.length:Int)) (by omega)
         generalize belowC d2 (2*(sq.length:Int))=d3 at *
         generalize belowV d2 (2*(sq.length:Int))=z2 at *
         have w6:IntKind.i64.wrap (2*(1+I)+z1)=2*(1+I)+z1:=wrap_id (by omega) (by omega)
         have w7:IntKind.i64.wrap (2*(1+I)+z2)=2*(1+I)+z2:=wrap_id (by omega) (by omega)
         have hse:(al.map enAnd).set i [D.int .i64 (2*(1+I)+z1),D.int .i64 (2*(1+I)+z2)]=al2.map enAnd:=by rw[ha2,List.map_set];rfl
         obtain⟨a0,ha0'⟩:∃ a0,al[i]? = some a0:=⟨_,List.getElem?_eq_getElem (by omega)⟩
         simp[decide_eq_true hlt,hll,decide_eq_true hs1]
         refine callT_step (q1) [] [0] (by simp) ?_
         simp[w3,w4]
         refine drawX_of [(9,[0,1,2,3,11,12,13,14,15,16]),(10,[0,1,2,11,12,13,14,15,16]),(17,[0,1,2,3,11]),(18,[0,1,2,3]),(19,[0,1,2]),(20,[]),(21,[])] (by kernel_rfl) ?_
         simp[w5]
         refine stepX [(9,[0,1,2,3,11,12,13,14,15,16])] (by kernel_rfl) ?_
         simp[eachX_one,eachX_two,List.erase_cons]
         refine callC_step (q2) [] [0] (by simp) (by simp[nearTo]) ?_
         simp[w5]
         refine stepX [(10,[0,1,2,11,12,13,14,15,16]),(17,[0,1,2,3,11])] (by kernel_rfl) ?_
         simp[eachX_one,eachX_two,List.erase_cons,w5,w6]
         refine⟨?_,?_⟩
         · refine stepX [(17,[0,1,2,3,11])] (by kernel_rfl) ?_
           simp[eachX_one,eachX_two,List.erase_cons]
           refine callC_step (q3) [] [0] (by simp) (by simp[nearTo]) ?_
           simp[w5]
           refine stepX [(18,[0,1,2,3])] (by kernel_rfl) ?_
           simp[eachX_one,eachX_two,List.erase_cons,w7]
           refine stepX [(19,[0,1,2])] (by kernel_rfl) ?_
           simp[eachX_one,eachX_two,List.erase_cons,w6,w7]
           refine stepX [(20,[])] (by kernel_rfl) ?_
           simp[eachX_one,eachX_two,List.erase_cons,ha0',hll]
           refine stepX [(21,[])] (by kernel_rfl) ?_
           simp[eachX_one,eachX_two,List.erase_cons,ha0',enAnd,hse,w2]
           exact round_of hI hS hμ (i+1) (by omega) (by omega) ⟨[0,1,2,3,4],by simp[hP2]⟩
         · refine callC_step (q3) [] [0] (by simp) (by simp[nearTo]) ?_
           simp[w5]
           refine stepX [(10,[0,1,2,11,12,13,14,15,16]),(18,[0,1,2,3])] (by kernel_rfl) ?_
           simp[eachX_one,eachX_two,List.erase_cons,w6,w7]
           refine⟨?_,?_⟩
           · refine stepX [(18,[0,1,2,3])] (by kernel_rfl) ?_
             simp[eachX_one,eachX_two,List.erase_cons,w7]
             refine stepX [(19,[0,1,2])] (by kernel_rfl) ?_
             simp[eachX_one,eachX_two,List.erase_cons,w6,w7]
             refine stepX [(20,[])] (by kernel_rfl) ?_
             simp[eachX_one,eachX_two,List.erase_cons,ha0',hll]
             refine stepX [(21,[])] (by kernel_rfl) ?_
             simp[eachX_one,eachX_two,List.erase_cons,ha0',enAnd,hse,w2]
             exact round_of hI hS hμ (i+1) (by omega) (by omega) ⟨[0,1,2,3,4],by simp[hP2]⟩
           · refine stepX [(10,[0,1,2,11,12,13,14,15,16])] (by kernel_rfl) ?_
             simp[eachX_one,eachX_two,List.erase_cons,w6]
             refine stepX [(19,[0,1,2])] (by kernel_rfl) ?_
             simp[eachX_one,eachX_two,List.erase_cons,w6,w7]
             refine stepX [(20,[])] (by kernel_rfl) ?_
             simp[eachX_one,eachX_two,List.erase_cons,ha0',hll]
             refine stepX [(21,[])] (by kernel_rfl) ?_
             simp[eachX_one,eachX_two,List.erase_cons,ha0',enAnd,hse,w2]
             exact round_of hI hS hμ (i+1) (by omega) (by omega) ⟨[0,1,2,3,4],by simp[hP2]⟩
     obtain rfl:i=an.length:=by omega
     simp[hlt,decide_eq_false hlt,hll]
     exact⟨[0],by simp[frI]⟩
set_option maxRecDepth 100000 in
set_option maxHeartbeats 16000000 in
theorem l25Case_conT (c:Cur) (h:c.ok):ConT Try.prog 42 [.ptr 0 0] [enCur c] (.tup [vgr (frG c),vgr (relD c).1,.d (eSl 44 enLink (relD c).2.1)]) [enCur (relD c).2.2]:=by
 have k1:=l15NetD_conT c h
 have hok:=frG_ok c
 obtain⟨g1,g2⟩:=frG_nums c
 have hal10:=frG_al c
 have hC:=frC_ok h
 unfold relD
 generalize frG c=a at *
 generalize frC c=c1 at *
 have hx:=fitGr_netOk hok
 have hg:=okGr_netOk hok
 have kP:=sPrune_conT a hx hok
 have kL:=sPruneLinks_con a hx hg
 have kF:=fun k=>sForwardLinks_con a k hx hg
 have kR:=fun k=>sRetime_conT a k hx hg
 have ko:=l01Once_conT c1 2 hC (by omega)
 have hC2:=belowC_ok (n:=2) hC
 obtain⟨⟨n1,n2,n3,n4,n5,n6⟩,o1,o2,o3⟩:=netOk_of hok
 have kb:=l01Below_conT (belowC c1 2) a.2.2.1.length hC2 (by omega)
 have hr1:=rl1_ok (a:=a) hC
 have hrf:=rl1_fit (a:=a) (c:=c1) hok
 have hR:rl1 a c1=if onceV c1 2=true∧0<a.2.2.1.length then
  if fwdOkB a (belowV (belowC c1 2) a.2.2.1.length)=true then (pruneG (fwdG a (belowV (belowC c1 2) a.2.2.1.length)),fwdLk a (belowV (belowC c1 2) a.2.2.1.length),belowC (belowC c1 2) a.2.2.1.length)
  else (pruneG a,lkP (keptG a),belowC (belowC c1 2) a.2.2.1.length)
 else (pruneG a,lkP (keptG a),belowC c1 2):=rfl
 generalize rl1 a c1=R at *
 obtain⟨b,ls,c4⟩:=R
 simp only at hr1 hrf
 have hok5:=belowC_ok (n:=8) hr1
 have hz:=belowV_rng c4 (n:=8) (by omega)
 have kz:=l01Below_conT c4 8 hr1 (by omega)
 have h2:rl2 a (b,ls,c4)=if belowV c4 8=0 then rl20 (b,ls,c4) (belowC c4 8) else if belowV c4 8=1 then rl21 a (b,ls,c4) (belowC c4 8) else if belowV c4 8=2 then ((anyP (belowC c4 8)).1,ls,(anyP (belowC c4 8)).2) else (b,ls,belowC c4 8):=rfl
 rw[h2]
 clear h2
 generalize belowC c4 8=c5 at *
 generalize belowV c4 8=z at *
 have kp:=l01Place_conT c5 4 hok5 (by omega)
 have hpk:=placeC_ok (n:=4) hok5
 have k6:=l01Below_conT (placeC c5 4) 6 hpk (by omega)
 have b6:=belowV_rng (placeC c5 4) (n:=6) (by omega)
 have hq1:1≤mxQ a∧mxQ a≤12:=by unfold mxQ;split<;>omega
 have kq:=l01Below_conT c5 (mxQ a) hok5 (by omega)
 have hok7:=belowC_ok (n:=mxQ a) hok5
 have k4:=l01Below_conT (belowC c5 (mxQ a)) 4 hok7 (by omega)
 have kA:=l08Any_conT c5 hok5
 have w6:IntKind.i64.wrap (belowV (placeC c5 4) 6 - 1)=belowV (placeC c5 4) 6 - 1:=wrap_id (by omega) (by omega)
 have hmq:mxQ a=if 1<(a.2.1.length:Int) then (a.2.1.length:Int) else 1:=rfl
 have hls0:∀ v:LinkD,(ls++[v]).map enLink=ls.map enLink++[enLink v]:=fun v=>by rw[List.map_append];rfl
 have hls1:∀ v:LinkD,(ls.set 0 v).map enLink=(ls.map enLink).set 0 (enLink v):=fun v=>by rw[List.map_set]
 have e20:rl20 (b,ls,c4) c5=(b,ls++[([placeV c5 4],belowV (placeC c5 4) 6 - 1)],belowC (placeC c5 4) 6):=rfl
 have e21:rl21 a (b,ls,c4) c5=if ls.length=0 then (b,ls,c5) else (b,ls.set 0 ([belowV c5 (mxQ a)],belowV (belowC c5 (mxQ a)) 4),belowC (belowC c5 (mxQ a)) 4):=rfl
 rw[e20,e21]
 clear e20 e21
 generalize hW:(if z=0 then (b,ls++[([placeV c5 4],belowV (placeC c5 4) 6 - 1)],belowC (placeC c5 4) 6) else if z=1 then (if ls.length=0 then (b,ls,c5) else (b,ls.set 0 ([belowV c5 (mxQ a)],belowV (belowC c5 (mxQ a)) 4),belowC (belowC c5 (mxQ a)) 4)) else if z=2 then ((anyP c5).1,ls,(anyP c5).2) else (b,ls,c5):RlD)=W
 obtain⟨wb,wl,wc⟩:=W
 simp only
 generalize mxQ a=mq at *
 generalize anyP c5=AP at *
 generalize belowV (placeC c5 4) 6=v6 at *
 generalize belowC (placeC c5 4) 6=c6 at *
 generalize placeV c5 4=vp at *
 generalize placeC c5 4=cp at *
 generalize belowV (belowC c5 mq) 4=v4 at *
 generalize belowC (belowC c5 mq) 4=c8 at *
 generalize belowV c5 mq=vq at *
 generalize belowC c5 mq=c7 at *
 generalize onceV c1 2=ob at *
 generalize belowC (belowC c1 2) a.2.2.1.length=c3 at *
 generalize belowV (belowC c1 2) a.2.2.1.length=k at *
 have kF:=kF k
 have kR:=kR k
 generalize belowC c1 2=c2 at *
 obtain⟨I,sq,an,os⟩:=a
 simp only at hR kb kF kR kP kL hal10 hmq g2 hrf n3
 have hal:decide (0<an.length)=true∨an=[]:=by
  rcases Nat.eq_zero_or_pos an.length with h|h
  · exact .inr (List.eq_nil_of_length_eq_zero h)
  · exact .inl (decide_eq_true h)
 refine conT_ofD (by kernel_rfl) Try.func42 rfl rfl rfl (by simp[laters,Later]) (by simp[lives,Slot.live]) ?_
 cases ob with
 | false =>
   rw[if_neg (by simp)] at hR
   obtain⟨hb1,h⟩:=Prod.mk.inj hR
   obtain⟨hl1,hc1⟩:=Prod.mk.inj h
   rw[←hb1] at kP
   rw[←hl1] at kL
   subst hc1
   simp
   refine callT_step (k1) [] [0] (by simp) ?_
   simp
   refine callT_step (kP) [] [] (by simp) ?_
   simp
   refine call_step (kL) ?_
   simp[enGr]
   refine callT_step (ko) [] [0] (by simp) ?_
   simp
   by_cases z0:z=0
   · subst z0
     rw[if_pos rfl] at hW
     obtain⟨hwb,hW2⟩:=Prod.mk.inj hW
     obtain⟨hwl,hwc⟩:=Prod.mk.inj hW2
     subst hwb hwc
     have hwm:wl.map enLink=ls.map enLink++[[.sl 3 [[.int .i64 vp]],.int .i64 (v6 - 1)]]:=by rw[←hwl,List.map_append];rfl
     refine callT_step (kz) [] [0] (by simp) ?_
     simp
     refine callT_step (kp) [] [0] (by simp) ?_
     simp
     refine callT_step (k6) [] [0] (by simp) ?_
     simp[w6]
     first | refine app_lit (q:=1) vt_el_34 (by exact rfl) (by simp) (by exact rfl) (by exact rfl) (by simp) (by simp) (by first | (simp;done)|(simp;omega)) ?_|refine app_row vt_el_34 (by exact rfl) (by simp) (by exact rfl) (by simp) (by first | (simp;done)|(simp;omega)) ?_
     simp
     refine drawE_of [(3,[1,2]),(4,[2]),(5,[])] (by kernel_rfl) ?_
     simp
     exact⟨[0],by simp[hwm]⟩
   by_cases z1:z=1
   · subst z1
     rw[if_neg (by omega),if_pos rfl] at hW
     by_cases hl0:ls.length=0
     · have hl1:ls=[]:=List.eq_nil_of_length_eq_zero hl0
       rw[if_pos hl0] at hW
       obtain⟨hwb,hW2⟩:=Prod.mk.inj hW
       obtain⟨hwl,hwc⟩:=Prod.mk.inj hW2
       subst hwb hwl hwc
       refine callT_step (kz) [] [0] (by simp) ?_
       simp[hl1]
       refine drawE_of [(3,[1,2]),(4,[2]),(5,[])] (by kernel_rfl) ?_
       simp
       exact⟨[0],by simp[hl1]⟩
     · have hlp:(0:Int)<(ls.length:Int):=by omega
       have hlp2:0<ls.length:=by omega
       have hlp3:decide (0<ls.length)=true:=decide_eq_true hlp2
       obtain⟨y,ys,hly⟩:∃ y ys,ls=y::ys:=by cases ls with|nil=>exact absurd rfl hl0|cons y ys=>exact⟨y,ys,rfl⟩
       have hat:(ls.map enLink)[0]? = some (enLink y):=by rw[hly];rfl
       rw[if_neg hl0] at hW
       obtain⟨hwb,hW2⟩:=Prod.mk.inj hW
       obtain⟨hwl,hwc⟩:=Prod.mk.inj hW2
       subst hwb hwc
       have hwm:wl.map enLink=(ls.map enLink).set 0 [.sl 3 [[.int .i64 vq]],.int .i64 v4]:=by rw[←hwl,List.map_set];rfl
       refine callT_step (kz) [] [0] (by simp) ?_
       simp[hlp3,←hmq]
       refine callT_step (kq) [] [0] (by simp) ?_
       simp
       refine callT_step (k4) [] [0] (by simp) ?_
       simp[hat,enLink]
       refine drawE_of [(3,[1,2]),(4,[2]),(5,[])] (by kernel_rfl) ?_
       simp
       exact⟨[0],by simp[hwm]⟩
   by_cases z2:z=2
   · subst z2
     rw[if_neg (by omega),if_neg (by omega),if_pos rfl] at hW
     obtain⟨hwb,hW2⟩:=Prod.mk.inj hW
     obtain⟨hwl,hwc⟩:=Prod.mk.inj hW2
     subst hwb hwl hwc
     refine callT_step (kz) [] [0] (by simp) ?_
     simp
     refine callT_step (kA) [] [0] (by simp) ?_
     simp
     refine drawE_of [(3,[1,2]),(4,[2]),(5,[])] (by kernel_rfl) ?_
     simp
     exact⟨[0],by simp⟩
   have b0:(z==0)=false:=by simpa using z0
   have b1:(z==1)=false:=by simpa using z1
   have b2:(z==2)=false:=by simpa using z2
   rw[if_neg z0,if_neg z1,if_neg z2] at hW
   obtain⟨hwb,hW2⟩:=Prod.mk.inj hW
   obtain⟨hwl,hwc⟩:=Prod.mk.inj hW2
   subst hwb hwl hwc
   refine callT_step (kz) [] [0] (by simp) ?_
   simp[b0,b1,b2]
   refine drawE_of [(3,[1,2]),(4,[2]),(5,[])] (by kernel_rfl) ?_
   simp
   exact⟨[0],by simp⟩
 | true =>
   rcases hal with hal|hal
   · have hal2:=of_decide_eq_true hal
     rw[if_pos ⟨rfl,hal2⟩] at hR
     cases hfo:fwdOkB (I,sq,an,os) k with
     | false =>
       rw[hfo,if_neg (by simp)] at hR
       rw[hfo] at kR kF
       simp only[Bool.false_eq_true,if_false] at kR
       obtain⟨hb1,h⟩:=Prod.mk.inj hR
       obtain⟨hl1,hc1⟩:=Prod.mk.inj h
       rw[←hb1] at kP
       rw[←hl1] at kL
       subst hc1
       simp
       refine callT_step (k1) [] [0] (by simp) ?_
       simp
       refine callT_step (kP) [] [] (by simp) ?_
       simp
       refine call_step (kL) ?_
       simp[enGr]
       refine callT_step (ko) [] [0] (by simp) ?_
       simp[hal2]
       refine callT_step (kb) [] [0] (by simp) ?_
       simp
       refine callT_step (kR) [] [] (by simp) ?_
       simp
       by_cases z0:z=0
       · subst z0
         rw[if_pos rfl] at hW
         obtain⟨hwb,hW2⟩:=Prod.mk.inj hW
         obtain⟨hwl,hwc⟩:=Prod.mk.inj hW2
         subst hwb hwc
         have hwm:wl.map enLink=ls.map enLink++[[.sl 3 [[.int .i64 vp]],.int .i64 (v6 - 1)]]:=by rw[←hwl,List.map_append];rfl
         refine callT_step (kz) [] [0] (by simp) ?_
         simp
         refine callT_step (kp) [] [0] (by simp) ?_
         simp
         refine callT_step (k6) [] [0] (by simp) ?_
         simp[w6]
         first | refine app_lit (q:=1) vt_el_34 (by exact rfl) (by simp) (by exact rfl) (by exact rfl) (by simp) (by simp) (by first | (simp;done)|(simp;omega)) ?_|refine app_row vt_el_34 (by exact rfl) (by simp) (by exact rfl) (by simp) (by first | (simp;done)|(simp;omega)) ?_
         simp
         refine drawE_of [(3,[1,2]),(4,[2]),(5,[])] (by kernel_rfl) ?_
         simp
         exact⟨[0],by simp[hwm]⟩
       by_cases z1:z=1
       · subst z1
         rw[if_neg (by omega),if_pos rfl] at hW
         by_cases hl0:ls.length=0
         · have hl1:ls=[]:=List.eq_nil_of_length_eq_zero hl0
           rw[if_pos hl0] at hW
           obtain⟨hwb,hW2⟩:=Prod.mk.inj hW
           obtain⟨hwl,hwc⟩:=Prod.mk.inj hW2
           subst hwb hwl hwc
           refine callT_step (kz) [] [0] (by simp) ?_
           simp[hl1]
           refine drawE_of [(3,[1,2]),(4,[2]),(5,[])] (by kernel_rfl) ?_
           simp
           exact⟨[0],by simp[hl1]⟩
         · have hlp:(0:Int)<(ls.length:Int):=by omega
           have hlp2:0<ls.length:=by omega
           have hlp3:decide (0<ls.length)=true:=decide_eq_true hlp2
           obtain⟨y,ys,hly⟩:∃ y ys,ls=y::ys:=by cases ls with|nil=>exact absurd rfl hl0|cons y ys=>exact⟨y,ys,rfl⟩
           have hat:(ls.map enLink)[0]? = some (enLink y):=by rw[hly];rfl
           rw[if_neg hl0] at hW
           obtain⟨hwb,hW2⟩:=Prod.mk.inj hW
           obtain⟨hwl,hwc⟩:=Prod.mk.inj hW2
           subst hwb hwc
           have hwm:wl.map enLink=(ls.map enLink).set 0 [.sl 3 [[.int .i64 vq]],.int .i64 v4]:=by rw[←hwl,List.map_set];rfl
           refine callT_step (kz) [] [0] (by simp) ?_
           simp[hlp3,←hmq]
           refine callT_step (kq) [] [0] (by simp) ?_
           simp
           refine callT_step (k4) [] [0] (by simp) ?_
           simp[hat,enLink]
           refine drawE_of [(3,[1,2]),(4,[2]),(5,[])] (by kernel_rfl) ?_
           simp
           exact⟨[0],by simp[hwm]⟩
       by_cases z2:z=2
       · subst z2
         rw[if_neg (by omega),if_neg (by omega),if_pos rfl] at hW
         obtain⟨hwb,hW2⟩:=Prod.mk.inj hW
         obtain⟨hwl,hwc⟩:=Prod.mk.inj hW2
         subst hwb hwl hwc
         refine callT_step (kz) [] [0] (by simp) ?_
         simp
         refine callT_step (kA) [] [0] (by simp) ?_
         simp
         refine drawE_of [(3,[1,2]),(4,[2]),(5,[])] (by kernel_rfl) ?_
         simp
         exact⟨[0],by simp⟩
       have b0:(z==0)=false:=by simpa using z0
       have b1:(z==1)=false:=by simpa using z1
       have b2:(z==2)=false:=by simpa using z2
       rw[if_neg z0,if_neg z1,if_neg z2] at hW
       obtain⟨hwb,hW2⟩:=Prod.mk.inj hW
       obtain⟨hwl,hwc⟩:=Prod.mk.inj hW2
       subst hwb hwl hwc
       refine callT_step (kz) [] [0] (by simp) ?_
       simp[b0,b1,b2]
       refine drawE_of [(3,[1,2]),(4,[2]),(5,[])] (by kernel_rfl) ?_
       simp
       exact⟨[0],by simp⟩
     | true =>
       rw[hfo,if_pos rfl] at hR
       rw[hfo] at kR kF
       simp only[if_true] at kR
       obtain⟨hb1,h⟩:=Prod.mk.inj hR
       obtain⟨hl1,hc1⟩:=Prod.mk.inj h
       rw[←hb1] at kR
       rw[←hl1] at kF
       subst hc1
       simp
       refine callT_step (k1) [] [0] (by simp) ?_
       simp
       refine callT_step (kP) [] [] (by simp) ?_
       simp
       refine call_step (kL) ?_
       simp[enGr]
       refine callT_step (ko) [] [0] (by simp) ?_
       simp[hal2]
       refine callT_step (kb) [] [0] (by simp) ?_
       simp
       refine callT_step (kR) [] [] (by simp) ?_
       simp
       refine call_step (kF) ?_
       simp[enGr]
       by_cases z0:z=0
       · subst z0
         rw[if_pos rfl] at hW
         obtain⟨hwb,hW2⟩:=Prod.mk.inj hW
         obtain⟨hwl,hwc⟩:=Prod.mk.inj hW2
         subst hwb hwc
         have hwm:wl.map enLink=ls.map enLink++[[.sl 3 [[.int .i64 vp]],.int .i64 (v6 - 1)]]:=by rw[←hwl,List.map_append];rfl
         refine callT_step (kz) [] [0] (by simp) ?_
         simp
         refine callT_step (kp) [] [0] (by simp) ?_
         simp
         refine callT_step (k6) [] [0] (by simp) ?_
         simp[w6]
         first | refine app_lit (q:=1) vt_el_34 (by exact rfl) (by simp) (by exact rfl) (by exact rfl) (by simp) (by simp) (by first | (simp;done)|(simp;omega)) ?_|refine app_row vt_el_34 (by exact rfl) (by simp) (by exact rfl) (by simp) (by first | (simp;done)|(simp;omega)) ?_
         simp
         refine drawE_of [(3,[1,2]),(4,[2]),(5,[])] (by kernel_rfl) ?_
         simp
         exact⟨[0],by simp[hwm]⟩
       by_cases z1:z=1
       · subst z1
         rw[if_neg (by omega),if_pos rfl] at hW
         by_cases hl0:ls.length=0
         · have hl1:ls=[]:=List.eq_nil_of_length_eq_zero hl0
           rw[if_pos hl0] at hW
           obtain⟨hwb,hW2⟩:=Prod.mk.inj hW
           obtain⟨hwl,hwc⟩:=Prod.mk.inj hW2
           subst hwb hwl hwc
           refine callT_step (kz) [] [0] (by simp) ?_
           simp[hl1]
           refine drawE_of [(3,[1,2]),(4,[2]),(5,[])] (by kernel_rfl) ?_
           simp
           exact⟨[0],by simp[hl1]⟩
         · have hlp:(0:Int)<(ls.length:Int):=by omega
           have hlp2:0<ls.length:=by omega
           have hlp3:decide (0<ls.length)=true:=decide_eq_true hlp2
           obtain⟨y,ys,hly⟩:∃ y ys,ls=y::ys:=by cases ls with|nil=>exact absurd rfl hl0|cons y ys=>exact⟨y,ys,rfl⟩
           have hat:(ls.map enLink)[0]? = some (enLink y):=by rw[hly];rfl
           rw[if_neg hl0] at hW
           obtain⟨hwb,hW2⟩:=Prod.mk.inj hW
           obtain⟨hwl,hwc⟩:=Prod.mk.inj hW2
           subst hwb hwc
           have hwm:wl.map enLink=(ls.map enLink).set 0 [.sl 3 [[.int .i64 vq]],.int .i64 v4]:=by rw[←hwl,List.map_set];rfl
           refine callT_step (kz) [] [0] (by simp) ?_
           simp[hlp3,←hmq]
           refine callT_step (kq) [] [0] (by simp) ?_
           simp
           refine callT_step (k4) [] [0] (by simp) ?_
           simp[hat,enLink]
           refine drawE_of [(3,[1,2]),(4,[2]),(5,[])] (by kernel_rfl) ?_
           simp
           exact⟨[0],by simp[hwm]⟩
       by_cases z2:z=2
       · subst z2
         rw[if_neg (by omega),if_neg (by omega),if_pos rfl] at hW
         obtain⟨hwb,hW2⟩:=Prod.mk.inj hW
         obtain⟨hwl,hwc⟩:=Prod.mk.inj hW2
         subst hwb hwl hwc
         refine callT_step (kz) [] [0] (by simp) ?_
         simp
         refine callT_step (kA) [] [0] (by simp) ?_
         simp
         refine drawE_of [(3,[1,2]),(4,[2]),(5,[])] (by kernel_rfl) ?_
         simp
         exact⟨[0],by simp⟩
       have b0:(z==0)=false:=by simpa using z0
       have b1:(z==1)=false:=by simpa using z1
       have b2:(z==2)=false:=by simpa using z2
       rw[if_neg z0,if_neg z1,if_neg z2] at hW
       obtain⟨hwb,hW2⟩:=Prod.mk.inj hW
       obtain⟨hwl,hwc⟩:=Prod.mk.inj hW2
       subst hwb hwl hwc
       refine callT_step (kz) [] [0] (by simp) ?_
       simp[b0,b1,b2]
       refine drawE_of [(3,[1,2]),(4,[2]),(5,[])] (by kernel_rfl) ?_
       simp
       exact⟨[0],by simp⟩
   · rw[if_neg (by rw[hal];simp)] at hR
     obtain⟨hb1,h⟩:=Prod.mk.inj hR
     obtain⟨hl1,hc1⟩:=Prod.mk.inj h
     rw[←hb1] at kP
     rw[←hl1] at kL
     subst hc1
     simp
     refine callT_step (k1) [] [0] (by simp) ?_
     simp
     refine callT_step (kP) [] [] (by simp) ?_
     simp
     refine call_step (kL) ?_
     simp[enGr]
     refine callT_step (ko) [] [0] (by simp) ?_
     simp[hal]
     by_cases z0:z=0
     · subst z0
       rw[if_pos rfl] at hW
       obtain⟨hwb,hW2⟩:=Prod.mk.inj hW
       obtain⟨hwl,hwc⟩:=Prod.mk.inj hW2
       subst hwb hwc
       have hwm:wl.map enLink=ls.map enLink++[[.sl 3 [[.int .i64 vp]],.int .i64 (v6 - 1)]]:=by rw[←hwl,List.map_append];rfl
       refine callT_step (kz) [] [0] (by simp) ?_
       simp
       refine callT_step (kp) [] [0] (by simp) ?_
       simp
       refine callT_step (k6) [] [0] (by simp) ?_
       simp[w6]
       first | refine app_lit (q:=1) vt_el_34 (by exact rfl) (by simp) (by exact rfl) (by exact rfl) (by simp) (by simp) (by first | (simp;done)|(simp;omega)) ?_|refine app_row vt_el_34 (by exact rfl) (by simp) (by exact rfl) (by simp) (by first | (simp;done)|(simp;omega)) ?_
       simp
       refine drawE_of [(3,[1,2]),(4,[2]),(5,[])] (by kernel_rfl) ?_
       simp
       exact⟨[0],by simp[hwm]⟩
     by_cases z1:z=1
     · subst z1
       rw[if_neg (by omega),if_pos rfl] at hW
       by_cases hl0:ls.length=0
       · have hl1:ls=[]:=List.eq_nil_of_length_eq_zero hl0
         rw[if_pos hl0] at hW
         obtain⟨hwb,hW2⟩:=Prod.mk.inj hW
         obtain⟨hwl,hwc⟩:=Prod.mk.inj hW2
         subst hwb hwl hwc
         refine callT_step (kz) [] [0] (by simp) ?_
         simp[hl1]
         refine drawE_of [(3,[1,2]),(4,[2]),(5,[])] (by kernel_rfl) ?_
         simp
         exact⟨[0],by simp[hl1]⟩
       · have hlp:(0:Int)<(ls.length:Int):=by omega
         have hlp2:0<ls.length:=by omega
         have hlp3:decide (0<ls.length)=true:=decide_eq_true hlp2
         obtain⟨y,ys,hly⟩:∃ y ys,ls=y::ys:=by cases ls with|nil=>exact absurd rfl hl0|cons y ys=>exact⟨y,ys,rfl⟩
         have hat:(ls.map enLink)[0]? = some (enLink y):=by rw[hly];rfl
         rw[if_neg hl0] at hW
         obtain⟨hwb,hW2⟩:=Prod.mk.inj hW
         obtain⟨hwl,hwc⟩:=Prod.mk.inj hW2
         subst hwb hwc
         have hwm:wl.map enLink=(ls.map enLink).set 0 [.sl 3 [[.int .i64 vq]],.int .i64 v4]:=by rw[←hwl,List.map_set];rfl
         refine callT_step (kz) [] [0] (by simp) ?_
         simp[hlp3,←hmq]
         refine callT_step (kq) [] [0] (by simp) ?_
         simp
         refine callT_step (k4) [] [0] (by simp) ?_
         simp[hat,enLink]
         refine drawE_of [(3,[1,2]),(4,[2]),(5,[])] (by kernel_rfl) ?_
         simp
         exact⟨[0],by simp[hwm]⟩
     by_cases z2:z=2
     · subst z2
       rw[if_neg (by omega),if_neg (by omega),if_pos rfl] at hW
       obtain⟨hwb,hW2⟩:=Prod.mk.inj hW
       obtain⟨hwl,hwc⟩:=Prod.mk.inj hW2
       subst hwb hwl hwc
       refine callT_step (kz) [] [0] (by simp) ?_
       simp
       refine callT_step (kA) [] [0] (by simp) ?_
       simp
       refine drawE_of [(3,[1,2]),(4,[2]),(5,[])] (by kernel_rfl) ?_
       simp
       exact⟨[0],by simp⟩
     have b0:(z==0)=false:=by simpa using z0
     have b1:(z==1)=false:=by simpa using z1
     have b2:(z==2)=false:=by simpa using z2
     rw[if_neg z0,if_neg z1,if_neg z2] at hW
     obtain⟨hwb,hW2⟩:=Prod.mk.inj hW
     obtain⟨hwl,hwc⟩:=Prod.mk.inj hW2
     subst hwb hwl hwc
     refine callT_step (kz) [] [0] (by simp) ?_
     simp[b0,b1,b2]
     refine drawE_of [(3,[1,2]),(4,[2]),(5,[])] (by kernel_rfl) ?_
     simp
     exact⟨[0],by simp⟩
set_option maxRecDepth 100000 in
theorem DrawRelation_conT (bs:List Int) (h:bs.length≤1048576):ConT Try.prog 13 [.d (.sl 5 (bs.map (e1 eByte)))] [] (.tup [vgr (frG (cur0 bs)),vgr (relD (cur0 bs)).1,.d (eSl 44 enLink (relD (cur0 bs)).2.1)]) []:=by
 have k1:=l01New_conT bs h
 have k2:=l25Case_conT (cur0 bs) (cur0_ok h)
 generalize frG (cur0 bs)=a at *
 generalize relD (cur0 bs)=r at *
 generalize cur0 bs=c1 at *
 refine conT_ofD (by kernel_rfl) Try.func13 rfl rfl rfl (by simp[laters,Later]) (by simp[lives,Slot.live]) ?_
 simp
 refine callT_step (k1) [] [] (by simp) ?_
 simp
 refine callT_step (k2) [] [2] (by simp) ?_
 simp
 exact⟨[],by simp⟩
end Go.Proofs.Ytnjedabjbeipeaa
