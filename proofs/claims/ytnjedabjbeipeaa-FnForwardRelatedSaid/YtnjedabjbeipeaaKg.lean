/-
  Pruning and forward retiming as they are asked for; nets with many flip-flops as they are drawn. Plain lemmas and abstract walks.
  Conditions: those typed in each theorem.
-/
import Derived.Test.YtnjedabjbeipeaaKe
import Derived.Test.YtnjedabjbeipeaaUe
import Derived.Test.YtnjedabjbeipeaaPq
namespace Go.Proofs.Ytnjedabjbeipeaa
open Go.RowKit Go.ChangeShapes Go.WideShapes
set_option linter.unusedVariables false
set_option linter.unusedSimpArgs false
attribute [local simp ↓] condG_true condG_false condB_true condB_false
attribute [local simp] AWp_skip AWp_region_t AWp_region_d AWp_region_f still_mk AWp_seq AWp_cond condV_bool condB AWp_block AWp_exit AWp_ret
attribute [local simp] AOps_nil AOp_move AOp_assign AOp_pick AOp_binOp AOp_unOp AOp_convert AOp_len AOp_max AOp_min AOp_indexAddr AOp_load
attribute [local simp] AOp_fieldAddr AOp_field AOp_extract AOp_nilCheck AOp_build AOp_alloc AOp_box AOp_call AOp_store AOp_append AOp_buildSlice nextB_some
attribute [local simp] nextB_none adoptO adoptC AOp_makeSlice AOp_slice AOp_makeFunc AOp_guard guardD_some guardG_bool guardG_undef nextO_some nextS_some
attribute [local simp] nextZ_some nextL_some nextM_some nextT_some sliceO sliceL sliceT partO partV boundV funcO pickO
attribute [local simp] convO lenO maxO minO idxO extO nilO buildO litO litC makeO chunks
attribute [local simp] fillV placeOf thenA inBlockA St.get St.put St.eval ofCell evalT abin_add abin_sub abin_mul
attribute [local simp] abin_quo abin_rem abin_and abin_or abin_xor abin_andNot abin_shl abin_shr abin_shlu abin_eql abin_eqp abin_neq
attribute [local simp] abin_lss abin_leq abin_gtr abin_geq abin_eqlb abin_neqb aun pickV lenV intOf? indexV takeD
attribute [local simp] takeV loadV fieldAddrV fieldV ofX presD presDs pres presAll cellsV V.cell storeV
attribute [local simp] freezeC putAt kill takeC plains plainV scalarV nat_neg keepT sets eSl e1
attribute [local simp] e2 e3 e4 eInt eBool abinS_d abinS_agg abinS nilEq abin_eqb AOp_makeMap AOp_lookup
attribute [local simp] AOp_mapUpdate lookG_some updG_some mapV kyOf vlOf lookV vlV buildA afterCall inst inst1
attribute [local simp] inst1s instD instDs RetA resVs resV gives give1 give1s Le isPin leSlots
attribute [local simp] leS leTmps leV le0 le0s ren ren0 renS ren0s frame enterT afterT_some
attribute [local simp] afterC_some lives Slot.live arrsOk viewV view0 renT rens renSs setAll List.range'_succ RetT
attribute [local simp] RetW joinV leT AOpsE_nil AOpsE_cons AOpsT_nil AOpsT_cons isCallT isFnO callOf callVC_fn condC_true
attribute [local simp] condC_false beginT_mk beginX_mk AOpsX_zero thenT_mk pickE pickT isT loose namesOf namesV names1
attribute [local simp] names0 stableN sameAt Op.operands Call.operands
def frI (x:GrD) (c:Cur):Nat→Cur×List AndD
 | 0=>(c,x.2.2.1)
 | i+1=>if onceV (frI x c i).1 2=true then
    (belowC (belowC (belowC (frI x c i).1 2) (2*x.2.1.length)) (2*x.2.1.length),
      (frI x c i).2.set i (2*(1+x.1)+belowV (belowC (frI x c i).1 2) (2*x.2.1.length),2*(1+x.1)+belowV (belowC (belowC (frI x c i).1 2) (2*x.2.1.length)) (2*x.2.1.length)))
   else (belowC (frI x c i).1 2,(frI x c i).2)
def frN (x:GrD):Nat:=if x.2.1.length=0 then 0 else x.2.2.1.length
def frX (x:GrD) (c:Cur):GrD:=(x.1,x.2.1,(frI x c (frN x)).2,x.2.2.2)
def frG (c:Cur):GrD:=frX (flsG c) (flsC c)
def frC (c:Cur):Cur:=(frI (flsG c) (flsC c) (frN (flsG c))).1
section
variable {x:GrD} {c:Cur}
theorem frI_succ {i:Nat}:frI x c (i+1)=if onceV (frI x c i).1 2=true then
 (belowC (belowC (belowC (frI x c i).1 2) (2*x.2.1.length)) (2*x.2.1.length),
   (frI x c i).2.set i (2*(1+x.1)+belowV (belowC (frI x c i).1 2) (2*x.2.1.length),2*(1+x.1)+belowV (belowC (belowC (frI x c i).1 2) (2*x.2.1.length)) (2*x.2.1.length)))
 else (belowC (frI x c i).1 2,(frI x c i).2):=rfl
theorem frI_len:∀ i,(frI x c i).2.length=x.2.2.1.length
 | 0=>rfl
 | i+1=>by
   rw[frI_succ]
   split
   · rw[List.length_set];exact frI_len i
   · exact frI_len i
theorem frI_ok (h:c.ok):∀ i,(frI x c i).1.ok
 | 0=>h
 | i+1=>by
   rw[frI_succ]
   split
   · exact belowC_ok (belowC_ok (belowC_ok (frI_ok h i)))
   · exact belowC_ok (frI_ok h i)
def fitsA (x:GrD) (al:List AndD):Prop:=∀ (k:Nat) (a:AndD),al[k]? = some a→(0≤a.1∧a.1<2*(1+x.1+x.2.1.length+k))∧0≤a.2∧a.2<2*(1+x.1+x.2.1.length+k)
theorem frI_fits (h0:0≤x.1) (hq:0<x.2.1.length) (h:fitsA x x.2.2.1):∀ i,fitsA x (frI x c i).2
 | 0=>h
 | i+1=>by
   have ih:=frI_fits h0 hq h i
   rw[frI_succ]
   split
   · have r1:=belowV_rng (belowC (frI x c i).1 2) (n:=2*x.2.1.length) (by omega)
     have r2:=belowV_rng (belowC (belowC (frI x c i).1 2) (2*x.2.1.length)) (n:=2*x.2.1.length) (by omega)
     intro k a ha
     by_cases e:i=k
     · subst e
       have hl:=(List.getElem?_eq_some_iff.1 ha).1
       rw[List.getElem?_set_self (by simpa using hl)] at ha
       obtain rfl:=Option.some.inj ha
       simp only
       omega
     · rw[List.getElem?_set_ne e] at ha
       exact ih k a ha
   · exact ih
theorem frX_ok (hok:netOkB x=true):netOkB (frX x c)=true:=by
 obtain⟨⟨n1,n2,n3,n4,n5,n6⟩,o1,o2,o3⟩:=netOk_of hok
 have hl:(frX x c).2.2.1.length=x.2.2.1.length:=frI_len _
 have hN:grN (frX x c)=grN x:=by
  show 1+x.1.toNat+x.2.1.length+(frX x c).2.2.1.length=1+x.1.toNat+x.2.1.length+x.2.2.1.length
  omega
 have hF:((firstG x:Nat):Int)=1+x.1+x.2.1.length:=by unfold firstG;omega
 have hr:∀ y∈grRoots x,0≤y∧y<2*(grN (frX x c):Int):=by rw[hN];exact o2
 refine netOk_mk ⟨n1,n2⟩ n3 (by rw[hl];exact n4) n5 o1 (fun y hy=>hr y (outs_root hy)) (fun s hs y hy=>?_) (andsFit_of fun k a ha=>?_)
 · exact hr y (List.mem_append_right _ (List.mem_flatten.2 ⟨s.2.2,List.mem_map.2 ⟨s,hs,rfl⟩,hy⟩))
 · have h2:fitsA x (frX x c).2.2.1:=by
    show fitsA x (frI x c (frN x)).2
    unfold frN
    split
    · exact o3
    · exact frI_fits n1 (by omega) o3 _
   have:=h2 k a ha
   have e:firstG (frX x c)=firstG x:=rfl
   rw[e]
   omega
end
theorem frG_ok (c:Cur):netOkB (frG c)=true:=frX_ok flsG_ok
theorem frG_nums (c:Cur):(frG c).1≤2∧(frG c).2.1.length≤4:=by
 obtain⟨h1,h2,h3⟩:=fls_nums c
 have lS:(qzPS c).2.length=qzSq c:=drS_len _
 refine⟨h1.2,?_⟩
 show (qzPS c).2.length≤4
 omega
set_option maxRecDepth 100000 in
theorem iPruneN_conT (x:GrD) (hx:fitGr 1048576 x) (hok:netOkB x=true):ConT Try.prog 11 [vgr x] [] (vgr (pruneG x)) []:=by
 have k1:=iNetOk_con x hx
 have k2:=iPrune_conT x hx hok
 rw[hok] at k1
 refine conT_ofD (by kernel_rfl) Try.func11 rfl rfl rfl (by simp[laters,Later]) (by simp[lives,Slot.live]) ?_
 simp
 refine call_step (k1) ?_
 simp[enGr]
 refine callT_step (k2) [] [] (by simp) ?_
 simp
 exact⟨[],by simp⟩
set_option maxRecDepth 100000 in
theorem iRetime_conT (x:GrD) (k:Int) (hx:fitGr 1048576 x):ConT Try.prog 8 [vgr x,.d (.int .i64 k)] [] (.tup [vgr (if fwdOkB x k=true then pruneG (fwdG x k) else x),.d (.bool (fwdOkB x k))]) []:=by
 have k1:=forward_conT x k hx
 have k2:=iCopyNet_conT x hx
 have k3:=fun h:fwdOkB x k=true=>iPrune_conT (fwdG x k) (fitGr_netOk (fwdG_ok h)) (fwdG_ok h)
 cases hb:fwdOkB x k with
 | false =>
   rw[hb] at k1
   simp only[Bool.false_eq_true,if_false] at k1 ⊢
   refine conT_ofD (by kernel_rfl) Try.func8 rfl rfl rfl (by simp[laters,Later]) (by simp[lives,Slot.live]) ?_
   simp
   refine callT_step (k1) [] [] (by simp) ?_
   simp
   refine callT_step (k2) [] [] (by simp) ?_
   simp
   exact⟨[],by simp⟩
 | true =>
   have k3:=k3 hb
   rw[hb] at k1
   simp only[if_true] at k1 ⊢
   refine conT_ofD (by kernel_rfl) Try.func8 rfl rfl rfl (by simp[laters,Later]) (by simp[lives,Slot.live]) ?_
   simp
   refine callT_step (k1) [] [] (by simp) ?_
   simp
   refine callT_step (k3) [] [] (by simp) ?_
   simp
   exact⟨[],by simp⟩
set_option maxRecDepth 100000 in
set_option maxHeartbeats 8000000 in
theorem l15Net_conT (c:Cur) (h:c.ok):ConT Try.prog 28 [.ptr 0 0] [enCur c] (.agg [.d (.int .i64 (frG c).1),sqV (frG c),.d (eSl 60 enAnd (frG c).2.2.1),.d (eSl 3 (e1 eInt) (frG c).2.2.2)]) (enCur (frC c)::sqS (frG c)):=by
 have k1:=l08Fls_conT c h
 have hok:=flsG_ok (c:=c)
 have hC:=flsC_ok h
 obtain⟨b1,b2,b3⟩:=fls_nums c
 have lS:(flsG c).2.1.length=qzSq c:=drS_len _
 have lA:(flsG c).2.2.1.length=qzAn c:=drA_len _
 have hI:(flsG c).1=qzIn c:=rfl
 unfold frG frC
 generalize flsG c=x at *
 generalize flsC c=c1 at *
 obtain⟨I,sq,an,os⟩:=x
 have hfl:=fun i=>frI_len (x:=(I,sq,an,os)) (c:=c1) i
 have hfo:=fun i=>frI_ok (x:=(I,sq,an,os)) hC i
 simp only at lS lA hI hfl
 rw[←hI] at b1
 clear hI
 obtain⟨b0,b1⟩:=b1
 refine conT_ofD (by kernel_rfl) Try.func28 rfl rfl rfl (by simp[laters,Later]) (by simp[lives,Slot.live]) ?_
 by_cases hs0:sq=[]
 · by_cases ha0:an=[]
   · subst hs0
     subst ha0
     simp only[sqV,sqS,anV,anS,frX,frN,List.length_nil,if_true,frI] at k1 ⊢
     simp
     refine callT_step (k1) [] [0] (by simp) ?_
     simp
     refine aw_loopN [true,false,true,true,true,false,false,false,false,false,false,false,false,false,false,false,false,false,false,false,false,false,false,false,false,false,false,false,false,false,false,false,false,false,false,false,false,false,false,false,false,false,false,false,false,false,false,false,false] (fun i:Nat=>i≤0) (fun i:Nat=>[(4,.d (.int .i64 i))]) (fun i:Nat=>fun _=>[enCur c1,.var 28 [.d (.int .i64 0),.nil 31,.nil 60,.nil 3],.var 28 [.d (.int .i64 I),.nil 31,.nil 60,.d (eSl 3 (e1 eInt) os)]]) (fun i:Nat=>0) 0 ?_ ?_ ?_
     · exact Nat.zero_le _
     · exact⟨[0,1,2],by simp⟩
     rintro I' S μ hI hS hμ i hi
     obtain rfl:i=0:=by omega
     simp
     exact⟨[0],by simp⟩
   · subst hs0
     have han:¬ an.length=0:=fun h=>ha0 (List.eq_nil_of_length_eq_zero h)
     simp only[sqV,sqS,anV,anS,frX,frN,List.length_nil,if_true,frI,if_neg han] at k1 ⊢
     simp
     refine callT_step (k1) [] [0] (by simp) ?_
     simp
     refine aw_loopN [true,false,true,true,true,false,false,false,false,false,false,false,false,false,false,false,false,false,false,false,false,false,false,false,false,false,false,false,false,false,false,false,false,false,false,false,false,false,false,false,false,false,false,false,false,false,false,false,false] (fun i:Nat=>i≤0) (fun i:Nat=>[(4,.d (.int .i64 i))]) (fun i:Nat=>fun _=>[enCur c1,.var 28 [.d (.int .i64 0),.nil 31,.nil 60,.nil 3],.arr 60 true (an.map enAnd),.var 28 [.d (.int .i64 I),.nil 31,.ref 2,.d (eSl 3 (e1 eInt) os)]]) (fun i:Nat=>0) 0 ?_ ?_ ?_
     · exact Nat.zero_le _
     · exact⟨[0,1,2,3],by simp⟩
     rintro I' S μ hI hS hμ i hi
     obtain rfl:i=0:=by omega
     simp[decide_eq_true (show 0<an.length by omega)]
     exact⟨[0],by simp⟩
 · by_cases ha0:an=[]
   · have hsn:¬ sq.length=0:=fun h=>hs0 (List.eq_nil_of_length_eq_zero h)
     subst ha0
     simp only[sqV,sqS,anV,anS,frX,frN,List.length_nil,if_true,frI,if_neg hsn] at k1 ⊢
     simp
     refine callT_step (k1) [] [0] (by simp) ?_
     simp
     refine aw_loopN [true,false,true,true,true,false,false,false,false,false,false,false,false,false,false,false,false,false,false,false,false,false,false,false,false,false,false,false,false,false,false,false,false,false,false,false,false,false,false,false,false,false,false,false,false,false,false,false,false] (fun i:Nat=>i≤0) (fun i:Nat=>[(4,.d (.int .i64 i))]) (fun i:Nat=>fun _=>[enCur c1,.var 28 [.d (.int .i64 0),.nil 31,.nil 60,.nil 3],.arr 31 true (sq.map enSeq),.var 28 [.d (.int .i64 I),.ref 2,.nil 60,.d (eSl 3 (e1 eInt) os)]]) (fun i:Nat=>0) 0 ?_ ?_ ?_
     · exact Nat.zero_le _
     · exact⟨[0,1,2,3],by simp⟩
     rintro I' S μ hI hS hμ i hi
     obtain rfl:i=0:=by omega
     simp
     exact⟨[0,2],by simp⟩
   · have hsn:¬ sq.length=0:=fun h=>hs0 (List.eq_nil_of_length_eq_zero h)
     have han:¬ an.length=0:=fun h=>ha0 (List.eq_nil_of_length_eq_zero h)
     simp only[sqV,sqS,anV,anS,frX,frN,List.length_nil,if_true,if_neg hsn,if_neg han] at k1 ⊢
     simp
     refine callT_step (k1) [] [0] (by simp) ?_
     simp
     refine aw_loopN [true,false,true,true,true,false,false,false,false,false,false,false,false,false,false,false,false,false,false,false,false,false,false,false,false,false,false,false,false,false,false,false,false,false,false,false,false,false,false,false,false,false,false,false,false,false,false,false,false] (fun i:Nat=>i≤an.length) (fun i:Nat=>[(4,.d (.int .i64 i))]) (fun i:Nat=>fun _=>[enCur (frI (I,sq,an,os) c1 i).1,.var 28 [.d (.int .i64 0),.nil 31,.nil 60,.nil 3],.arr 31 true (sq.map enSeq),.arr 60 true ((frI (I,sq,an,os) c1 i).2.map enAnd),.var 28 [.d (.int .i64 I),.ref 2,.ref 3,.d (eSl 3 (e1 eInt) os)]]) (fun i:Nat=>an.length - i) 0 ?_ ?_ ?_
     · exact Nat.zero_le _
     · exact⟨[0,1,2,3,4],by simp[frI]⟩
     rintro I' S μ hI hS hμ i hi
     have hst:=frI_succ (x:=(I,sq,an,os)) (c:=c1) (i:=i)
     have hll:=hfl i
     have hok1:=hfo i
     by_cases hlt:i<an.length
     · obtain⟨P2,hP2⟩:∃ P2,frI (I,sq,an,os) c1 (i+1)=P2:=⟨_,rfl⟩
       rw[hP2] at hst
       simp only at hst
       generalize frI (I,sq,an,os) c1 i=P1 at *
       obtain⟨cp,al⟩:=P1
       obtain⟨cp2,al2⟩:=P2
       simp only at hst hll hok1
       have q1:=l01Once_conT cp 2 hok1 (by omega)
       have okb:=belowC_ok (n:=2) hok1
       generalize belowC cp 2=d1 at *
       have hs4:(sq.length:Int)≤4:=by omega
       have hs1:0<sq.length:=by omega
       have w2:IntKind.i64.wrap ((i:Int)+1)=((i+1:Nat):Int):=by rw[wrap_id (by omega) (by omega)];omega
       cases ho:onceV cp 2 with
       | false =>
         rw[ho,if_neg (by simp)] at hst
         obtain⟨rfl,rfl⟩:=Prod.mk.inj hst
         rw[ho] at q1
         simp[decide_eq_true hlt,hll,decide_eq_true hs1]
         refine callT_step (q1) [] [0] (by simp) ?_
         simp[w2]
         exact round_of hI hS hμ (i+1) (by omega) (by omega) ⟨[0,1,2,3,4],by simp[hP2]⟩
       | true =>
         rw[ho,if_pos rfl] at hst
         obtain⟨rfl,ha2⟩:=Prod.mk.inj hst
         rw[ho] at q1
         have w3:IntKind.i64.wrap (1+I)=1+I:=wrap_id (by omega) (by omega)
         have w4:IntKind.i64.wrap (2*(1+I))=2*(1+I):=wrap_id (by omega) (by omega)
         have w5:IntKind.i64.wrap (2*(sq.length:Int))=2*(sq.length:Int):=wrap_id (by omega) (by omega)
         have q2:=l01Below_conT d1 (2*(sq.length:Int)) okb (by omega)
         have r1:=belowV_rng d1 (n:=2*(sq.length:Int)) (by omega)
         have okc:=belowC_ok (n:=2*(sq.length:Int)) okb
         generalize belowC d1 (2*(sq.length:Int))=d2 at *
         generalize belowV d1 (2*(sq.length:Int))=z1 at *
         have q3:=l01Below_conT d2 (2*(sq.length:Int)) okc (by omega)
         have r2:=belowV_rng d2 (n:=2*(sq.length:Int)) (by omega)
         generalize belowC d2 (2*(sq.length:Int))=d3 at *
         generalize belowV d2 (2*(sq.length:Int))=z2 at *
         have w6:IntKind.i64.wrap (2*(1+I)+z1)=2*(1+I)+z1:=wrap_id (by omega) (by omega)
         have w7:IntKind.i64.wrap (2*(1+I)+z2)=2*(1+I)+z2:=wrap_id (by omega) (by omega)
         have hse:(al.map enAnd).set i [D.int .i64 (2*(1+I)+z1),D.int .i64 (2*(1+I)+z2)]=al2.map enAnd:=by rw[ha2,List.map_set];rfl
         obtain⟨a0,ha0'⟩:∃ a0,al[i]? = some a0:=⟨_,List.getElem?_eq_getElem (by omega)⟩
         simp[decide_eq_true hlt,hll,decide_eq_true hs1]
         refine callT_step (q1) [] [0] (by simp) ?_
         simp[w3,w4]
         refine drawX_of [(9,[0,1,2,3,11,12,13,14,15,16]),(10,[0,1,2,11,12,13,14,15,16]),(17,[0,1,2,3,11]),(18,[0,1,2,3]),(19,[0,1,2]),(20,[]),(21,[])] (by kernel_rfl) ?_
         simp[w5]
         refine stepX [(9,[0,1,2,3,11,12,13,14,15,16])] (by kernel_rfl) ?_
         simp[eachX_one,eachX_two,List.erase_cons]
         refine callC_step (q2) [] [0] (by simp) (by simp[nearTo]) ?_
         simp[w5]
         refine stepX [(10,[0,1,2,11,12,13,14,15,16]),(17,[0,1,2,3,11])] (by kernel_rfl) ?_
         simp[eachX_one,eachX_two,List.erase_cons,w5,w6]
         refine⟨?_,?_⟩
         · refine stepX [(17,[0,1,2,3,11])] (by kernel_rfl) ?_
           simp[eachX_one,eachX_two,List.erase_cons]
           refine callC_step (q3) [] [0] (by simp) (by simp[nearTo]) ?_
           simp[w5]
           refine stepX [(18,[0,1,2,3])] (by kernel_rfl) ?_
           simp[eachX_one,eachX_two,List.erase_cons,w7]
           refine stepX [(19,[0,1,2])] (by kernel_rfl) ?_
           simp[eachX_one,eachX_two,List.erase_cons,w6,w7]
           refine stepX [(20,[])] (by kernel_rfl) ?_
           simp[eachX_one,eachX_two,List.erase_cons,ha0',hll]
           refine stepX [(21,[])] (by kernel_rfl) ?_
           simp[eachX_one,eachX_two,List.erase_cons,ha0',enAnd,hse,w2]
           exact round_of hI hS hμ (i+1) (by omega) (by omega) ⟨[0,1,2,3,4],by simp[hP2]⟩
         · refine callC_step (q3) [] [0] (by simp) (by simp[nearTo]) ?_
           simp[w5]
           refine stepX [(10,[0,1,2,11,12,13,14,15,16]),(18,[0,1,2,3])] (by kernel_rfl) ?_
           simp[eachX_one,eachX_two,List.erase_cons,w6,w7]
           refine⟨?_,?_⟩
           · refine stepX [(18,[0,1,2,3])] (by kernel_rfl) ?_
             simp[eachX_one,eachX_two,List.erase_cons,w7]
             refine stepX [(19,[0,1,2])] (by kernel_rfl) ?_
             simp[eachX_one,eachX_two,List.erase_cons,w6,w7]
             refine stepX [(20,[])] (by kernel_rfl) ?_
             simp[eachX_one,eachX_two,List.erase_cons,ha0',hll]
             refine stepX [(21,[])] (by kernel_rfl) ?_
             simp[eachX_one,eachX_two,List.erase_cons,ha0',enAnd,hse,w2]
             exact round_of hI hS hμ (i+1) (by omega) (by omega) ⟨[0,1,2,3,4],by simp[hP2]⟩
           · refine stepX [(10,[0,1,2,11,12,13,14,15,16])] (by kernel_rfl) ?_
             simp[eachX_one,eachX_two,List.erase_cons,w6]
             refine stepX [(19,[0,1,2])] (by kernel_rfl) ?_
             simp[eachX_one,eachX_two,List.erase_cons,w6,w7]
             refine stepX [(20,[])] (by kernel_rfl) ?_
             simp[eachX_one,eachX_two,List.erase_cons,ha0',hll]
             refine stepX [(21,[])] (by kernel_rfl) ?_
             simp[eachX_one,eachX_two,List.erase_cons,ha0',enAnd,hse,w2]
             exact round_of hI hS hμ (i+1) (by omega) (by omega) ⟨[0,1,2,3,4],by simp[hP2]⟩
     obtain rfl:i=an.length:=by omega
     simp[hlt,decide_eq_false hlt,hll]
     exact⟨[0,2],by simp⟩
def fsV (G:GrD):V:=if G.2.1.length=0 then .nil 31 else .ref 0
set_option maxRecDepth 100000 in
theorem DrawFlops_conT (bs:List Int) (h:bs.length≤1048576):ConT Try.prog 7 [.d (.sl 5 (bs.map (e1 eByte)))] [] (.agg [.d (.int .i64 (frG (cur0 bs)).1),fsV (frG (cur0 bs)),.d (eSl 60 enAnd (frG (cur0 bs)).2.2.1),.d (eSl 3 (e1 eInt) (frG (cur0 bs)).2.2.2)]) (sqS (frG (cur0 bs))):=by
 have k1:=l01New_conT bs h
 have k2:=l15Net_conT (cur0 bs) (cur0_ok h)
 generalize frG (cur0 bs)=x at *
 generalize frC (cur0 bs)=c2 at *
 generalize cur0 bs=c1 at *
 refine conT_ofD (by kernel_rfl) Try.func7 rfl rfl rfl (by simp[laters,Later]) (by simp[lives,Slot.live]) ?_
 by_cases hs0:x.2.1.length=0
 · simp only[sqV,sqS,fsV,hs0,if_true] at k2 ⊢
   simp
   refine callT_step (k1) [] [] (by simp) ?_
   simp
   refine callT_step (k2) [] [1] (by simp) ?_
   simp
   exact⟨[],by simp⟩
 · simp only[sqV,sqS,fsV,if_neg hs0] at k2 ⊢
   simp
   refine callT_step (k1) [] [] (by simp) ?_
   simp
   refine callT_step (k2) [] [1] (by simp) ?_
   simp
   exact⟨[2],by simp⟩
end Go.Proofs.Ytnjedabjbeipeaa
