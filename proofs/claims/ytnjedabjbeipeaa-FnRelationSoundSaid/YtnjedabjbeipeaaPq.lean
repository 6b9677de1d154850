/-
  Small nets with many flip-flops, as they are drawn, by an abstract walk; their elements and AND nodes in rows of their own.
  Conditions: those typed in each theorem.
-/
import Derived.Test.YtnjedabjbeipeaaRh
import Derived.Test.YtnjedabjbeipeaaSb
namespace Go.Proofs.Ytnjedabjbeipeaa
open Go.RowKit Go.ChangeShapes Go.WideShapes
set_option linter.unusedVariables false
set_option linter.unusedSimpArgs false
attribute [local simp ↓] condG_true condG_false condB_true condB_false
attribute [local simp] AWp_skip AWp_region_t AWp_region_d AWp_region_f still_mk AWp_seq AWp_cond condV_bool condB AWp_block AWp_exit AWp_ret
attribute [local simp] AOps_nil AOp_move AOp_assign AOp_pick AOp_binOp AOp_unOp AOp_convert AOp_len AOp_max AOp_min AOp_indexAddr AOp_load
attribute [local simp] AOp_fieldAddr AOp_field AOp_extract AOp_nilCheck AOp_build AOp_alloc AOp_box AOp_call AOp_store AOp_append AOp_buildSlice nextB_some
attribute [local simp] nextB_none adoptO adoptC AOp_makeSlice AOp_slice AOp_makeFunc AOp_guard guardD_some guardG_bool guardG_undef nextO_some nextS_some
attribute [local simp] nextZ_some nextL_some nextM_some nextT_some sliceO sliceL sliceT partO partV boundV funcO pickO
attribute [local simp] convO lenO maxO minO idxO extO nilO buildO litO litC makeO chunks
attribute [local simp] fillV placeOf thenA inBlockA St.get St.put St.eval ofCell evalT abin_add abin_sub abin_mul
attribute [local simp] abin_quo abin_rem abin_and abin_or abin_xor abin_andNot abin_shl abin_shr abin_shlu abin_eql abin_eqp abin_neq
attribute [local simp] abin_lss abin_leq abin_gtr abin_geq abin_eqlb abin_neqb aun pickV lenV intOf? indexV takeD
attribute [local simp] takeV loadV fieldAddrV fieldV ofX presD presDs pres presAll cellsV V.cell storeV
attribute [local simp] freezeC putAt kill takeC plains plainV scalarV nat_neg keepT sets eSl e1
attribute [local simp] e2 e3 e4 eInt eBool abinS_d abinS_agg abinS nilEq abin_eqb AOp_makeMap AOp_lookup
attribute [local simp] AOp_mapUpdate lookG_some updG_some mapV kyOf vlOf lookV vlV buildA afterCall inst inst1
attribute [local simp] inst1s instD instDs RetA resVs resV gives give1 give1s Le isPin leSlots
attribute [local simp] leS leTmps leV le0 le0s ren ren0 renS ren0s frame enterT afterT_some
attribute [local simp] afterC_some lives Slot.live arrsOk viewV view0 renT rens renSs setAll List.range'_succ RetT
attribute [local simp] RetW joinV leT AOpsE_nil AOpsE_cons AOpsT_nil AOpsT_cons isCallT isFnO callOf callVC_fn condC_true
attribute [local simp] condC_false beginT_mk beginX_mk AOpsX_zero thenT_mk pickE pickT isT loose namesOf namesV names1
attribute [local simp] names0 stableN sameAt Op.operands Call.operands
def sqS (G:GrD):List Slot:=if G.2.1.length=0 then [] else [.arr 31 true (G.2.1.map enSeq)]
def sqV (G:GrD):V:=if G.2.1.length=0 then .nil 31 else .ref 1
def anS (G:GrD):List Slot:=if G.2.2.1.length=0 then [] else [.arr 60 true (G.2.2.1.map enAnd)]
def anV (G:GrD):V:=if G.2.2.1.length=0 then .nil 60 else .ref (1+(sqS G).length)
set_option maxRecDepth 100000 in
set_option maxHeartbeats 10000000 in
theorem l08Fls_conT (c:Cur) (h:c.ok):ConT Try.prog 77 [.ptr 0 0,.d (.int .i64 2),.d (.int .i64 4),.d (.int .i64 10)] [enCur c] (.agg [.d (.int .i64 (flsG c).1),sqV (flsG c),anV (flsG c),.d (eSl 3 (e1 eInt) (flsG c).2.2.2)]) (enCur (flsC c)::(sqS (flsG c)++anS (flsG c))):=by
 obtain⟨s1,s2,s3⟩:=fls_nums c
 have b1:=belowV_rng c (n:=2) (by omega)
 have b2:=belowV_rng (belowC c 2) (n:=5) (by omega)
 have b3:=belowV_rng (belowC (belowC c 2) 5) (n:=11) (by omega)
 have k1:=l01Below_conT c 2 h (by omega)
 have k2:=l01Below_conT (belowC c 2) 5 (belowC_ok h) (by omega)
 have k3:=l01Below_conT (belowC (belowC c 2) 5) 11 (belowC_ok (belowC_ok h)) (by omega)
 have hI:qzIn c=1+belowV c 2:=rfl
 have hs:belowV (belowC c 2) 5=(qzSq c:Int):=by unfold qzSq;omega
 have ha:belowV (belowC (belowC c 2) 5) 11=(qzAn c:Int):=by unfold qzAn;omega
 have hF:(qzF c:Int)=1+qzIn c+qzSq c:=by unfold qzF;omega
 have hT:qzTop c=2*((qzF c:Int)+qzAn c):=rfl
 have hc1:belowC (belowC (belowC c 2) 5) 11=qzC1 c:=rfl
 have hok1:(qzC1 c).ok:=belowC_ok (belowC_ok (belowC_ok h))
 have hPA:qzPA c=drA (qzF c) (qzC1 c) (qzAn c):=rfl
 have hPS:qzPS c=drS (qzTop c) (qzPA c).1 (qzSq c):=rfl
 have hPO:qzPO c=drO (qzTop c) (belowC (qzPS c).1 4) ((belowV (qzPS c).1 4).toNat+1):=rfl
 have hG:flsG c=(qzIn c,(qzPS c).2,(qzPA c).2,(qzPO c).2):=rfl
 have hC:flsC c=(qzPO c).1:=rfl
 rw[hG,hC]
 rw[hc1] at k3
 rw[ha] at k3
 rw[hs] at k2
 have w1:IntKind.i64.wrap (1+belowV c 2)=qzIn c:=by rw[hI];exact wrap_id (by omega) (by omega)
 have w2:IntKind.i64.wrap (1+qzIn c)=1+qzIn c:=wrap_id (by omega) (by omega)
 have w3:IntKind.i64.wrap (1+qzIn c+qzSq c)=qzF c:=by rw[hF];exact wrap_id (by omega) (by omega)
 generalize belowC (belowC c 2) 5=c2 at *
 generalize belowC c 2=c6 at *
 generalize belowV c 2=v6 at *
 generalize qzPO c=PO at *
 generalize qzPS c=PS at *
 generalize qzPA c=PA at *
 generalize qzC1 c=c1 at *
 generalize qzTop c=top at *
 generalize qzF c=F at *
 generalize qzIn c=inn at *
 generalize qzSq c=sq at *
 generalize qzAn c=an at *
 refine conT_ofD (by kernel_rfl) Try.func77 rfl rfl rfl (by simp[laters,Later]) (by simp[lives,Slot.live]) ?_
 simp
 refine callT_step (k1) [] [0] (by simp) ?_
 simp[w1,show IntKind.i64.wrap 5=5 from rfl,show IntKind.i64.wrap 11=11 from rfl]
 refine callT_step (k2) [] [0] (by simp) ?_
 simp[show IntKind.i64.wrap 5=5 from rfl,show IntKind.i64.wrap 11=11 from rfl]
 refine callT_step (k3) [] [0] (by simp) ?_
 simp[w2,w3]
 refine aw_loopN [true,false,false,false,false,false,false,false,true,true,true,true,true,true,false,false,false,false,false,false,false,false,false,false,false,false,false,false,false,false,false,false,false,false,false,false,false,false,false,false,false,false,false,false,false,false,false,false,false,false,false,false,false,false,false,false,false,false,false,false,false,false,false,false,false,false,false,false,false,false,false,false,false,false,false,false,false,false,false,false,false,false,false,false,false,false,false,false,false,false,false,false,false,false,false,false,false,false,false,false,false,false,false,false,false,false,false,false,false,false,false,false,false,false,false,false,false,false,false,false,false,false,false,false,false,false,false,false,false,false,false] (fun i:Nat=>i≤an) (fun i:Nat=>[(13,.d (.int .i64 i))]) (fun i:Nat=>fun sl=>[enCur (drA F c1 i).1,zG,.var 28 [.d (.int .i64 inn),.nil 31,nC 60 i 3,.nil 3]]++nS 60 i ((drA F c1 i).2.map enAnd)) (fun i:Nat=>an - i) 0 ?_ ?_ ?_
 · simp
 · exact⟨[0,1,2],by simp[zG,nC,nS,drA]⟩
 rintro I S μ hI' hS hμ i hi
 by_cases hlt:i<an
 · skip
   have hd:=decide_eq_true hlt
   have hok2:=drA_ok (F:=F) hok1 i
   have hll:=drA_len (F:=F) (c:=c1) i
   have hst:drA F c1 (i+1)=stA (2*((F:Int)+i)) (drA F c1 i):=rfl
   have v1:IntKind.i64.wrap ((F:Int)+i)=(F:Int)+i:=wrap_id (by omega) (by omega)
   have v2:IntKind.i64.wrap (2*((F:Int)+i))=2*((F:Int)+i):=wrap_id (by omega) (by omega)
   have w4:IntKind.i64.wrap ((i:Int)+1)=(i:Int)+1:=wrap_id (by omega) (by omega)
   generalize drA F c1 i=p at *
   obtain⟨cp,al⟩:=p
   simp only[stA] at hst hll hok2
   have hkk:2≤2*((F:Int)+i)∧2*((F:Int)+i)≤200:=by omega
   generalize hkv:2*((F:Int)+i)=kk at *
   have v3:IntKind.i64.wrap (kk - 1)=kk - 1:=wrap_id (by omega) (by omega)
   have hm1:=mnP_pos (a:=kk - 1) (b:=14) (by omega) (by omega)
   have hmm:(if 14<kk - 1 then (14:Int) else kk - 1)=mnP (kk - 1) 14:=rfl
   generalize mnP (kk - 1) 14=n1 at *
   have q1:=l01Below_conT cp n1 hok2 (by omega)
   have q2:=l01Below_conT (belowC cp n1) kk (belowC_ok hok2) (by omega)
   have r1:=belowV_rng cp (n:=n1) (by omega)
   have v4:IntKind.i64.wrap (kk - 1 - belowV cp n1)=kk - 1 - belowV cp n1:=wrap_id (by omega) (by omega)
   generalize belowV (belowC cp n1) kk=z2 at *
   generalize belowC (belowC cp n1) kk=d2 at *
   generalize belowV cp n1=z1 at *
   generalize belowC cp n1=d1 at *
   by_cases hi0:i=0
   · have has:al=[]:=List.eq_nil_of_length_eq_zero (by omega)
     rw[has] at hst
     have hnC:nC 60 i 3=.nil 60:=if_pos hi0
     have hnS:∀ es,nS 60 i es=[]:=fun es=>if_pos hi0
     simp[hd,v1,v2,hkv,v3,hmm,hnC,hnS]
     refine callT_step (q1) [] [0] (by simp) ?_
     simp[v4]
     refine drawE_of [(5,[0,1,2]),(6,[0,1]),(7,[0,1]),(8,[]),(9,[]),(10,[])] (by kernel_rfl) ?_
     simp
     refine callC_step (q2) [] [0] (by simp) (by simp[nearTo]) ?_
     simp
     refine app_data vt_el_25 rfl (by simp) rfl (by simp) (by simp) (by first | (simp;done)|(simp;omega)) (by simp[flatP,flatD]) ?_
     simp[w4]
     exact round_of hI' hS hμ (i+1) (by omega) (by omega) ⟨[0,1,2,4],by simp[hst,nC,nS,enAnd,e2,eInt]⟩
   · have hnC:nC 60 i 3=.ref 3:=if_neg hi0
     have hnS:∀ es,nS 60 i es=[.arr 60 true es]:=fun es=>if_neg hi0
     simp[hd,v1,v2,hkv,v3,hmm,hnC,hnS]
     refine callT_step (q1) [] [0] (by simp) ?_
     simp[v4]
     refine drawE_of [(5,[0,1,2]),(6,[0,1]),(7,[0,1]),(8,[]),(9,[]),(10,[])] (by kernel_rfl) ?_
     simp
     refine callC_step (q2) [] [0] (by simp) (by simp[nearTo]) ?_
     simp
     refine app_data vt_el_25 rfl (by simp) rfl (by simp) (by simp) (by first | (simp;done)|(simp;omega)) (by simp[flatP,flatD]) ?_
     simp[w4]
     exact round_of hI' hS hμ (i+1) (by omega) (by omega) ⟨[0,1,2,5],by simp[hst,nC,nS,enAnd,e2,eInt]⟩
 obtain rfl:i=an:=by omega
 clear hI' hS hμ
 rw[←hPA]
 have hlA:PA.2.length=i:=by rw[hPA];exact drA_len i
 have hokA:PA.1.ok:=by rw[hPA];exact drA_ok hok1 i
 have u1:IntKind.i64.wrap ((F:Int)+i)=(F:Int)+i:=wrap_id (by omega) (by omega)
 have u2:IntKind.i64.wrap (2*((F:Int)+i))=top:=by rw[hT];exact wrap_id (by omega) (by omega)
 have hnn:(nC 60 i 3=.nil 60∧nS 60 i (PA.2.map enAnd)=[]∧PA.2=[])∨(nC 60 i 3=.ref 3∧nS 60 i (PA.2.map enAnd)=[.arr 60 true (PA.2.map enAnd)]∧PA.2.length≠0):=by
  by_cases hi0:i=0
  · exact .inl ⟨if_pos hi0,if_pos hi0,List.eq_nil_of_length_eq_zero (by omega)⟩
  · exact .inr ⟨if_neg hi0,if_neg hi0,by omega⟩
 have htop:2≤top∧top≤200:=by omega
 clear hPA
 rcases hnn with ⟨hnC,hnS,hPn⟩|⟨hnC,hnS,hPn⟩
 · rw[hnC,hnS]
   clear hnC hnS
   simp[u1,u2]
   refine aw_loopN [true,false,false,false,false,false,false,false,true,true,true,false,false,false,false,false,true,true,false,false,false,false,false,false,false,false,false,false,false,false,false,false,false,false,false,false,false,false,false,false,false,false,false,false,false,false,false,false,false,false,false,false,false,false,false,false,false,false,false,false,false,false,false,false,false,false,false,false,false,false,false,false,false,false,false,false,false,false,false,false,false,false,false,false,false,false,false,false,false,false,false,false,false,false,false,false,false,false,false,false,false,false,false,false,false,false,false,false,false,false,false,false,false,false,false,false,false,false,false,false,false,false,false,false,false,false,false,false,false,false,false] (fun i:Nat=>i≤sq) (fun i:Nat=>[(17,.d (.int .i64 i))]) (fun i:Nat=>fun sl=>[enCur (drS top PA.1 i).1,zG,.var 28 [.d (.int .i64 inn),nC 31 i 3,.nil 60,.nil 3]]++nS 31 i ((drS top PA.1 i).2.map enSeq)) (fun i:Nat=>sq - i) 0 ?_ ?_ ?_
   · simp
   · exact⟨[0,1,2],by simp[zG,nC,nS,drS]⟩
   rintro I S μ hI' hS hμ q hq
   by_cases hlt2:q<sq
   · skip
     have hd:=decide_eq_true hlt2
     have hok2:=drS_ok (top:=top) hokA q
     have hll:=drS_len (top:=top) (c:=PA.1) q
     have hst:drS top PA.1 (q+1)=((oneS top (drS top PA.1 q).1).1,(drS top PA.1 q).2++[(oneS top (drS top PA.1 q).1).2]):=rfl
     have w4:IntKind.i64.wrap ((q:Int)+1)=(q:Int)+1:=wrap_id (by omega) (by omega)
     generalize drS top PA.1 q=p at *
     obtain⟨cp,al⟩:=p
     simp only at hst hll hok2
     have q0:=l01Once_conT cp 6 hok2 (by omega)
     have hnq:(nC 31 q 3=.nil 31∧(∀ es,nS 31 q es=[])∧al=[]∧(4,4)=(4,4))∨(nC 31 q 3=.ref 3∧(∀ es,nS 31 q es=[.arr 31 true es])):=by
      by_cases hi0:q=0
      · exact .inl ⟨if_pos hi0,fun es=>if_pos hi0,List.eq_nil_of_length_eq_zero (by omega),rfl⟩
      · exact .inr ⟨if_neg hi0,fun es=>if_neg hi0⟩
     cases ho:onceV cp 6 with
     | true =>
       have h1:oneS top cp=ramS top (belowC cp 6):=if_pos ho
       rw[h1] at hst
       rw[ho] at q0
       have hokc:=belowC_ok (n:=6) hok2
       generalize belowC cp 6=d0 at *
       have q1:=l01Below_conT d0 32 hokc (by omega)
       have q2:=l01Below_conT (belowC d0 32) top (belowC_ok hokc) (by omega)
       have q3:=l01Below_conT (belowC (belowC d0 32) top) top (belowC_ok (belowC_ok hokc)) (by omega)
       have q4:=l01Below_conT (belowC (belowC (belowC d0 32) top) top) top (belowC_ok (belowC_ok (belowC_ok hokc))) (by omega)
       have q5:=l01Below_conT (belowC (belowC (belowC (belowC d0 32) top) top) top) top (belowC_ok (belowC_ok (belowC_ok (belowC_ok hokc)))) (by omega)
       unfold ramS at hst
       simp only at hst
       generalize belowC (belowC (belowC (belowC (belowC d0 32) top) top) top) top=d5 at *
       generalize belowV (belowC (belowC (belowC (belowC d0 32) top) top) top) top=z5 at *
       generalize belowC (belowC (belowC (belowC d0 32) top) top) top=d4 at *
       generalize belowV (belowC (belowC (belowC d0 32) top) top) top=z4 at *
       generalize belowC (belowC (belowC d0 32) top) top=d3 at *
       generalize belowV (belowC (belowC d0 32) top) top=z3 at *
       generalize belowC (belowC d0 32) top=d2 at *
       generalize belowV (belowC d0 32) top=z2 at *
       generalize belowC d0 32=d1 at *
       generalize belowV d0 32=z1 at *
       rcases hnq with ⟨hqC,hqS,hal,-⟩|⟨hqC,hqS⟩
       · rw[hal] at hst
         simp[hd,hqC,hqS]
         refine callT_step (q0) [] [0] (by simp) ?_
         simp
         refine drawE_of [(3,[0,1,4,5,7,8,10,11,13,14]),(6,[0,1,7,8,10,11,13,14]),(9,[0,1,10,11,13,14]),(12,[0,1,13,14]),(15,[0,1]),(16,[0,1]),(17,[0,1]),(18,[0,1]),(19,[]),(20,[]),(21,[])] (by kernel_rfl) ?_
         simp
         refine callC_step (q1) [] [0] (by simp) (by simp[nearTo]) ?_
         simp
         refine callC_step (q2) [] [0] (by simp) (by simp[nearTo]) ?_
         simp
         refine callC_step (q3) [] [0] (by simp) (by simp[nearTo]) ?_
         simp
         refine callC_step (q4) [] [0] (by simp) (by simp[nearTo]) ?_
         simp
         refine callC_step (q5) [] [0] (by simp) (by simp[nearTo]) ?_
         simp
         first | refine app_lit (q:=1) vt_el_24 (by exact rfl) (by simp) (by exact rfl) (by exact rfl) (by simp) (by simp) (by first | (simp;done)|(simp;omega)) ?_|refine app_row vt_el_24 (by exact rfl) (by simp) (by exact rfl) (by simp) (by first | (simp;done)|(simp;omega)) ?_
         simp[w4]
         exact round_of hI' hS hμ (q+1) (by omega) (by omega) ⟨[0,1,2,5],by simp[hst,nC,nS,enSeq,e1,e3,eInt]⟩
       · simp[hd,hqC,hqS]
         refine callT_step (q0) [] [0] (by simp) ?_
         simp
         refine drawE_of [(3,[0,1,4,5,7,8,10,11,13,14]),(6,[0,1,7,8,10,11,13,14]),(9,[0,1,10,11,13,14]),(12,[0,1,13,14]),(15,[0,1]),(16,[0,1]),(17,[0,1]),(18,[0,1]),(19,[]),(20,[]),(21,[])] (by kernel_rfl) ?_
         simp
         refine callC_step (q1) [] [0] (by simp) (by simp[nearTo]) ?_
         simp
         refine callC_step (q2) [] [0] (by simp) (by simp[nearTo]) ?_
         simp
         refine callC_step (q3) [] [0] (by simp) (by simp[nearTo]) ?_
         simp
         refine callC_step (q4) [] [0] (by simp) (by simp[nearTo]) ?_
         simp
         refine callC_step (q5) [] [0] (by simp) (by simp[nearTo]) ?_
         simp
         first | refine app_lit (q:=1) vt_el_24 (by exact rfl) (by simp) (by exact rfl) (by exact rfl) (by simp) (by simp) (by first | (simp;done)|(simp;omega)) ?_|refine app_row vt_el_24 (by exact rfl) (by simp) (by exact rfl) (by simp) (by first | (simp;done)|(simp;omega)) ?_
         simp[w4]
         exact round_of hI' hS hμ (q+1) (by omega) (by omega) ⟨[0,1,2,6],by simp[hst,nC,nS,enSeq,e1,e3,eInt]⟩
     | false =>
       have h1:oneS top cp=flpS top (belowC cp 6):=if_neg (by rw[ho];simp)
       rw[h1] at hst
       rw[ho] at q0
       have hokc:=belowC_ok (n:=6) hok2
       generalize belowC cp 6=d0 at *
       have hm1:=mnP_pos (a:=top) (b:=12) (by omega) (by omega)
       have hmm:(if 12<top then (12:Int) else top)=mnP top 12:=rfl
       unfold flpS at hst
       simp only at hst
       generalize mnP top 12=n1 at *
       have q1:=l01Below_conT d0 2 hokc (by omega)
       have q2:=l01Below_conT (belowC d0 2) n1 (belowC_ok hokc) (by omega)
       have r1:=belowV_rng (belowC d0 2) (n:=n1) (by omega)
       have v3:IntKind.i64.wrap (top - 1)=top - 1:=wrap_id (by omega) (by omega)
       have v4:IntKind.i64.wrap (top - 1 - belowV (belowC d0 2) n1)=top - 1 - belowV (belowC d0 2) n1:=wrap_id (by omega) (by omega)
       generalize belowC (belowC d0 2) n1=d2 at *
       generalize belowV (belowC d0 2) n1=z2 at *
       generalize belowC d0 2=d1 at *
       generalize belowV d0 2=z1 at *
       rcases hnq with ⟨hqC,hqS,hal,-⟩|⟨hqC,hqS⟩
       · rw[hal] at hst
         simp[hd,hqC,hqS]
         refine callT_step (q0) [] [0] (by simp) ?_
         simp
         refine drawE_of [(3,[0,1,4,5,6,7,8]),(9,[0,1,4,5]),(10,[0,1]),(11,[0,1]),(12,[0,1]),(13,[0,1]),(14,[]),(15,[]),(16,[])] (by kernel_rfl) ?_
         simp[v3,hmm]
         refine callC_step (q1) [] [0] (by simp) (by simp[nearTo]) ?_
         simp
         refine callC_step (q2) [] [0] (by simp) (by simp[nearTo]) ?_
         simp[v4]
         first | refine app_lit (q:=1) vt_el_24 (by exact rfl) (by simp) (by exact rfl) (by exact rfl) (by simp) (by simp) (by first | (simp;done)|(simp;omega)) ?_|refine app_row vt_el_24 (by exact rfl) (by simp) (by exact rfl) (by simp) (by first | (simp;done)|(simp;omega)) ?_
         simp[w4]
         exact round_of hI' hS hμ (q+1) (by omega) (by omega) ⟨[0,1,2,5],by simp[hst,nC,nS,enSeq,e1,e3,eInt]⟩
       · simp[hd,hqC,hqS]
         refine callT_step (q0) [] [0] (by simp) ?_
         simp
         refine drawE_of [(3,[0,1,4,5,6,7,8]),(9,[0,1,4,5]),(10,[0,1]),(11,[0,1]),(12,[0,1]),(13,[0,1]),(14,[]),(15,[]),(16,[])] (by kernel_rfl) ?_
         simp[v3,hmm]
         refine callC_step (q1) [] [0] (by simp) (by simp[nearTo]) ?_
         simp
         refine callC_step (q2) [] [0] (by simp) (by simp[nearTo]) ?_
         simp[v4]
         first | refine app_lit (q:=1) vt_el_24 (by exact rfl) (by simp) (by exact rfl) (by exact rfl) (by simp) (by simp) (by first | (simp;done)|(simp;omega)) ?_|refine app_row vt_el_24 (by exact rfl) (by simp) (by exact rfl) (by simp) (by first | (simp;done)|(simp;omega)) ?_
         simp[w4]
         exact round_of hI' hS hμ (q+1) (by omega) (by omega) ⟨[0,1,2,6],by simp[hst,nC,nS,enSeq,e1,e3,eInt]⟩
   obtain rfl:q=sq:=by omega
   clear hI' hS hμ
   rw[←hPS]
   have hokS:PS.1.ok:=by rw[hPS];exact drS_ok hokA q
   have hlS:PS.2.length=q:=by rw[hPS];exact drS_len q
   have k4:=l01Below_conT PS.1 4 hokS (by omega)
   have r4:=belowV_rng PS.1 (n:=4) (by omega)
   have hmn:(nC 31 q 3=.nil 31∧nS 31 q (PS.2.map enSeq)=[]∧PS.2=[])∨(nC 31 q 3=.ref 3∧nS 31 q (PS.2.map enSeq)=[.arr 31 true (PS.2.map enSeq)]∧PS.2.length≠0):=by
    by_cases hi0:q=0
    · exact .inl ⟨if_pos hi0,if_pos hi0,List.eq_nil_of_length_eq_zero (by omega)⟩
    · exact .inr ⟨if_neg hi0,if_neg hi0,by omega⟩
   clear hPS
   obtain⟨n4,hn4⟩:∃ n4:Nat,belowV PS.1 4=n4:=⟨(belowV PS.1 4).toNat,by omega⟩
   rw[hn4] at k4 r4 hPO
   rw[Int.toNat_natCast] at hPO
   have hok4:=belowC_ok (n:=4) hokS
   generalize belowC PS.1 4=c4 at *
   rcases hmn with ⟨hmC,hmS,hSn⟩|⟨hmC,hmS,hSn⟩
   · rw[hmC,hmS]
     clear hmC hmS
     have hsV:sqV (inn,PS.2,PA.2,PO.2)=.nil 31:=if_pos (by rw[hSn];rfl)
     have hsS:sqS (inn,PS.2,PA.2,PO.2)=[]:=if_pos (by rw[hSn];rfl)
     have haV:anV (inn,PS.2,PA.2,PO.2)=.nil 60:=if_pos (by rw[hPn];rfl)
     have haS:anS (inn,PS.2,PA.2,PO.2)=[]:=if_pos (by rw[hPn];rfl)
     rw[hsV,hsS,haV,haS]
     simp[hlt2]
     refine callT_step (k4) [] [0] (by simp) ?_
     simp
     refine aw_loopN [true,false,false,false,false,false,false,false,true,true,false,false,false,false,false,false,true,false,true,false,false,false,false,false,false,false,false,false,false,false,false,false,false,false,false,false,false,false,false,false,false,false,false,false,false,false,false,false,false,false,false,false,false,false,false,false,false,false,false,false,false,false,false,false,false,false,false,false,false,false,false,false,false,false,false,false,false,false,false,false,false,false,false,false,false,false,false,false,false,false,false,false,false,false,false,false,false,false,false,false,false,false,false,false,false,false,false,false,false,false,false,false,false,false,false,false,false,false,false,false,false,false,false,false,false,false,false,false,false,false,false] (fun i:Nat=>i≤n4+1) (fun i:Nat=>[(18,.d (.int .i64 ((n4:Int) - i)))]) (fun i:Nat=>fun sl=>[enCur (drO top c4 i).1,zG,.var 28 [.d (.int .i64 inn),.nil 31,.nil 60,nC 3 i 3]]++nS 3 i ((drO top c4 i).2.map (e1 eInt))) (fun i:Nat=>n4+1 - i) 0 ?_ ?_ ?_
     · simp
     · exact⟨[0,1,2],by simp[zG,nC,nS,drO]⟩
     rintro I S μ hI' hS hμ j hj
     have hok5:=drO_ok (top:=top) hok4 j
     have hll:=drO_len (top:=top) (c:=c4) j
     have hst:drO top c4 (j+1)=(belowC (drO top c4 j).1 (mnP top 12),(drO top c4 j).2++[top - 1 - belowV (drO top c4 j).1 (mnP top 12)]):=rfl
     obtain⟨z,hz⟩:∃ z:Int,z=(n4:Int) - j:=⟨_,rfl⟩
     rw[←hz]
     by_cases hlt3:j<n4+1
     · skip
       generalize drO top c4 j=p at *
       obtain⟨cp,al⟩:=p
       simp only at hst hll hok5
       have hm1:=mnP_pos (a:=top) (b:=12) (by omega) (by omega)
       have hmm:(if 12<top then (12:Int) else top)=mnP top 12:=rfl
       generalize mnP top 12=n1 at *
       have q2:=l01Below_conT cp n1 hok5 (by omega)
       have r1:=belowV_rng cp (n:=n1) (by omega)
       have v3:IntKind.i64.wrap (top - 1)=top - 1:=wrap_id (by omega) (by omega)
       have v4:IntKind.i64.wrap (top - 1 - belowV cp n1)=top - 1 - belowV cp n1:=wrap_id (by omega) (by omega)
       have w5:IntKind.i64.wrap (z - 1)=(n4:Int) - ((j:Int)+1):=by rw[wrap_id (by omega) (by omega)];omega
       generalize belowC cp n1=d1 at *
       generalize belowV cp n1=z1 at *
       by_cases hj0:j=0
       · have hal:al=[]:=List.eq_nil_of_length_eq_zero (by omega)
         rw[hal] at hst
         have hqC:nC 3 j 3=.nil 3:=if_pos hj0
         have hqS:∀ es,nS 3 j es=[]:=fun es=>if_pos hj0
         simp[show (0:Int)≤z by omega,hqC,hqS]
         refine drawE_of [(7,[0,1,2,3]),(8,[0,1]),(9,[0,1]),(10,[]),(11,[]),(12,[])] (by kernel_rfl) ?_
         simp[v3,hmm]
         refine callC_step (q2) [] [0] (by simp) (by simp[nearTo]) ?_
         simp[v4]
         refine app_data vt_el_26 rfl (by simp) rfl (by simp) (by simp) (by first | (simp;done)|(simp;omega)) (by simp[flatP,flatD]) ?_
         simp[w5]
         exact round_of hI' hS hμ (j+1) (by omega) (by omega) ⟨[0,1,2,4],by simp[hst,nC,nS,e1,eInt]⟩
       · have hqC:nC 3 j 3=.ref 3:=if_neg hj0
         have hqS:∀ es,nS 3 j es=[.arr 3 true es]:=fun es=>if_neg hj0
         simp[show (0:Int)≤z by omega,hqC,hqS]
         refine drawE_of [(7,[0,1,2,3]),(8,[0,1]),(9,[0,1]),(10,[]),(11,[]),(12,[])] (by kernel_rfl) ?_
         simp[v3,hmm]
         refine callC_step (q2) [] [0] (by simp) (by simp[nearTo]) ?_
         simp[v4]
         refine app_data vt_el_26 rfl (by simp) rfl (by simp) (by simp) (by first | (simp;done)|(simp;omega)) (by simp[flatP,flatD]) ?_
         simp[w5]
         exact round_of hI' hS hμ (j+1) (by omega) (by omega) ⟨[0,1,2,5],by simp[hst,nC,nS,e1,eInt]⟩
     obtain rfl:j=n4+1:=by omega
     rw[←hPO]
     have hqC:nC 3 (n4+1) 3=.ref 3:=if_neg (by omega)
     have hqS:∀ es,nS 3 (n4+1) es=[.arr 3 true es]:=fun es=>if_neg (by omega)
     simp[show ¬ (0:Int)≤z by omega,show z<0 by omega,hqC,hqS]
     exact⟨[0],by simp⟩
   · rw[hmC,hmS]
     clear hmC hmS
     have hsV:sqV (inn,PS.2,PA.2,PO.2)=.ref 1:=if_neg hSn
     have hsS:sqS (inn,PS.2,PA.2,PO.2)=[.arr 31 true (PS.2.map enSeq)]:=if_neg hSn
     have haV:anV (inn,PS.2,PA.2,PO.2)=.nil 60:=if_pos (by rw[hPn];rfl)
     have haS:anS (inn,PS.2,PA.2,PO.2)=[]:=if_pos (by rw[hPn];rfl)
     rw[hsV,hsS,haV,haS]
     simp[hlt2]
     refine callT_step (k4) [] [0] (by simp) ?_
     simp
     refine aw_loopN [true,false,false,false,false,false,false,false,true,true,false,false,false,false,false,false,true,false,true,false,false,false,false,false,false,false,false,false,false,false,false,false,false,false,false,false,false,false,false,false,false,false,false,false,false,false,false,false,false,false,false,false,false,false,false,false,false,false,false,false,false,false,false,false,false,false,false,false,false,false,false,false,false,false,false,false,false,false,false,false,false,false,false,false,false,false,false,false,false,false,false,false,false,false,false,false,false,false,false,false,false,false,false,false,false,false,false,false,false,false,false,false,false,false,false,false,false,false,false,false,false,false,false,false,false,false,false,false,false,false,false] (fun i:Nat=>i≤n4+1) (fun i:Nat=>[(18,.d (.int .i64 ((n4:Int) - i)))]) (fun i:Nat=>fun sl=>[enCur (drO top c4 i).1,zG,.var 28 [.d (.int .i64 inn),.ref 3,.nil 60,nC 3 i 4]]++[.arr 31 true (PS.2.map enSeq)]++nS 3 i ((drO top c4 i).2.map (e1 eInt))) (fun i:Nat=>n4+1 - i) 0 ?_ ?_ ?_
     · simp
     · exact⟨[0,1,2,3],by simp[zG,nC,nS,drO]⟩
     rintro I S μ hI' hS hμ j hj
     have hok5:=drO_ok (top:=top) hok4 j
     have hll:=drO_len (top:=top) (c:=c4) j
     have hst:drO top c4 (j+1)=(belowC (drO top c4 j).1 (mnP top 12),(drO top c4 j).2++[top - 1 - belowV (drO top c4 j).1 (mnP top 12)]):=rfl
     obtain⟨z,hz⟩:∃ z:Int,z=(n4:Int) - j:=⟨_,rfl⟩
     rw[←hz]
     by_cases hlt3:j<n4+1
     · skip
       generalize drO top c4 j=p at *
       obtain⟨cp,al⟩:=p
       simp only at hst hll hok5
       have hm1:=mnP_pos (a:=top) (b:=12) (by omega) (by omega)
       have hmm:(if 12<top then (12:Int) else top)=mnP top 12:=rfl
       generalize mnP top 12=n1 at *
       have q2:=l01Below_conT cp n1 hok5 (by omega)
       have r1:=belowV_rng cp (n:=n1) (by omega)
       have v3:IntKind.i64.wrap (top - 1)=top - 1:=wrap_id (by omega) (by omega)
       have v4:IntKind.i64.wrap (top - 1 - belowV cp n1)=top - 1 - belowV cp n1:=wrap_id (by omega) (by omega)
       have w5:IntKind.i64.wrap (z - 1)=(n4:Int) - ((j:Int)+1):=by rw[wrap_id (by omega) (by omega)];omega
       generalize belowC cp n1=d1 at *
       generalize belowV cp n1=z1 at *
       by_cases hj0:j=0
       · have hal:al=[]:=List.eq_nil_of_length_eq_zero (by omega)
         rw[hal] at hst
         have hqC:nC 3 j 4=.nil 3:=if_pos hj0
         have hqS:∀ es,nS 3 j es=[]:=fun es=>if_pos hj0
         simp[show (0:Int)≤z by omega,hqC,hqS]
         refine drawE_of [(7,[0,1,2,3]),(8,[0,1]),(9,[0,1]),(10,[]),(11,[]),(12,[])] (by kernel_rfl) ?_
         simp[v3,hmm]
         refine callC_step (q2) [] [0] (by simp) (by simp[nearTo]) ?_
         simp[v4]
         refine app_data vt_el_26 rfl (by simp) rfl (by simp) (by simp) (by first | (simp;done)|(simp;omega)) (by simp[flatP,flatD]) ?_
         simp[w5]
         exact round_of hI' hS hμ (j+1) (by omega) (by omega) ⟨[0,1,2,3,5],by simp[hst,nC,nS,e1,eInt]⟩
       · have hqC:nC 3 j 4=.ref 4:=if_neg hj0
         have hqS:∀ es,nS 3 j es=[.arr 3 true es]:=fun es=>if_neg hj0
         simp[show (0:Int)≤z by omega,hqC,hqS]
         refine drawE_of [(7,[0,1,2,3]),(8,[0,1]),(9,[0,1]),(10,[]),(11,[]),(12,[])] (by kernel_rfl) ?_
         simp[v3,hmm]
         refine callC_step (q2) [] [0] (by simp) (by simp[nearTo]) ?_
         simp[v4]
         refine app_data vt_el_26 rfl (by simp) rfl (by simp) (by simp) (by first | (simp;done)|(simp;omega)) (by simp[flatP,flatD]) ?_
         simp[w5]
         exact round_of hI' hS hμ (j+1) (by omega) (by omega) ⟨[0,1,2,3,6],by simp[hst,nC,nS,e1,eInt]⟩
     obtain rfl:j=n4+1:=by omega
     rw[←hPO]
     have hqC:nC 3 (n4+1) 4=.ref 4:=if_neg (by omega)
     have hqS:∀ es,nS 3 (n4+1) es=[.arr 3 true es]:=fun es=>if_neg (by omega)
     simp[show ¬ (0:Int)≤z by omega,show z<0 by omega,hqC,hqS]
     exact⟨[0,3],by simp⟩
 · rw[hnC,hnS]
   clear hnC hnS
   simp[u1,u2]
   refine aw_loopN [true,false,false,false,false,false,false,false,true,true,true,false,false,false,false,false,true,true,false,false,false,false,false,false,false,false,false,false,false,false,false,false,false,false,false,false,false,false,false,false,false,false,false,false,false,false,false,false,false,false,false,false,false,false,false,false,false,false,false,false,false,false,false,false,false,false,false,false,false,false,false,false,false,false,false,false,false,false,false,false,false,false,false,false,false,false,false,false,false,false,false,false,false,false,false,false,false,false,false,false,false,false,false,false,false,false,false,false,false,false,false,false,false,false,false,false,false,false,false,false,false,false,false,false,false,false,false,false,false,false,false] (fun i:Nat=>i≤sq) (fun i:Nat=>[(17,.d (.int .i64 i))]) (fun i:Nat=>fun sl=>[enCur (drS top PA.1 i).1,zG,.var 28 [.d (.int .i64 inn),nC 31 i 4,.ref 3,.nil 3]]++[.arr 60 true (PA.2.map enAnd)]++nS 31 i ((drS top PA.1 i).2.map enSeq)) (fun i:Nat=>sq - i) 0 ?_ ?_ ?_
   · simp
   · exact⟨[0,1,2,3],by simp[zG,nC,nS,drS]⟩
   rintro I S μ hI' hS hμ q hq
   by_cases hlt2:q<sq
   · skip
     have hd:=decide_eq_true hlt2
     have hok2:=drS_ok (top:=top) hokA q
     have hll:=drS_len (top:=top) (c:=PA.1) q
     have hst:drS top PA.1 (q+1)=((oneS top (drS top PA.1 q).1).1,(drS top PA.1 q).2++[(oneS top (drS top PA.1 q).1).2]):=rfl
     have w4:IntKind.i64.wrap ((q:Int)+1)=(q:Int)+1:=wrap_id (by omega) (by omega)
     generalize drS top PA.1 q=p at *
     obtain⟨cp,al⟩:=p
     simp only at hst hll hok2
     have q0:=l01Once_conT cp 6 hok2 (by omega)
     have hnq:(nC 31 q 4=.nil 31∧(∀ es,nS 31 q es=[])∧al=[]∧(4,4)=(4,4))∨(nC 31 q 4=.ref 4∧(∀ es,nS 31 q es=[.arr 31 true es])):=by
      by_cases hi0:q=0
      · exact .inl ⟨if_pos hi0,fun es=>if_pos hi0,List.eq_nil_of_length_eq_zero (by omega),rfl⟩
      · exact .inr ⟨if_neg hi0,fun es=>if_neg hi0⟩
     cases ho:onceV cp 6 with
     | true =>
       have h1:oneS top cp=ramS top (belowC cp 6):=if_pos ho
       rw[h1] at hst
       rw[ho] at q0
       have hokc:=belowC_ok (n:=6) hok2
       generalize belowC cp 6=d0 at *
       have q1:=l01Below_conT d0 32 hokc (by omega)
       have q2:=l01Below_conT (belowC d0 32) top (belowC_ok hokc) (by omega)
       have q3:=l01Below_conT (belowC (belowC d0 32) top) top (belowC_ok (belowC_ok hokc)) (by omega)
       have q4:=l01Below_conT (belowC (belowC (belowC d0 32) top) top) top (belowC_ok (belowC_ok (belowC_ok hokc))) (by omega)
       have q5:=l01Below_conT (belowC (belowC (belowC (belowC d0 32) top) top) top) top (belowC_ok (belowC_ok (belowC_ok (belowC_ok hokc)))) (by omega)
       unfold ramS at hst
       simp only at hst
       generalize belowC (belowC (belowC (belowC (belowC d0 32) top) top) top) top=d5 at *
       generalize belowV (belowC (belowC (belowC (belowC d0 32) top) top) top) top=z5 at *
       generalize belowC (belowC (belowC (belowC d0 32) top) top) top=d4 at *
       generalize belowV (belowC (belowC (belowC d0 32) top) top) top=z4 at *
       generalize belowC (belowC (belowC d0 32) top) top=d3 at *
       generalize belowV (belowC (belowC d0 32) top) top=z3 at *
       generalize belowC (belowC d0 32) top=d2 at *
       generalize belowV (belowC d0 32) top=z2 at *
       generalize belowC d0 32=d1 at *
       generalize belowV d0 32=z1 at *
       rcases hnq with ⟨hqC,hqS,hal,-⟩|⟨hqC,hqS⟩
       · rw[hal] at hst
         simp[hd,hqC,hqS]
         refine callT_step (q0) [] [0] (by simp) ?_
         simp
         refine drawE_of [(3,[0,1,4,5,7,8,10,11,13,14]),(6,[0,1,7,8,10,11,13,14]),(9,[0,1,10,11,13,14]),(12,[0,1,13,14]),(15,[0,1]),(16,[0,1]),(17,[0,1]),(18,[0,1]),(19,[]),(20,[]),(21,[])] (by kernel_rfl) ?_
         simp
         refine callC_step (q1) [] [0] (by simp) (by simp[nearTo]) ?_
         simp
         refine callC_step (q2) [] [0] (by simp) (by simp[nearTo]) ?_
         simp
         refine callC_step (q3) [] [0] (by simp) (by simp[nearTo]) ?_
         simp
         refine callC_step (q4) [] [0] (by simp) (by simp[nearTo]) ?_
         simp
         refine callC_step (q5) [] [0] (by simp) (by simp[nearTo]) ?_
         simp
         first | refine app_lit (q:=1) vt_el_24 (by exact rfl) (by simp) (by exact rfl) (by exact rfl) (by simp) (by simp) (by first | (simp;done)|(simp;omega)) ?_|refine app_row vt_el_24 (by exact rfl) (by simp) (by exact rfl) (by simp) (by first | (simp;done)|(simp;omega)) ?_
         simp[w4]
         exact round_of hI' hS hμ (q+1) (by omega) (by omega) ⟨[0,1,2,3,6],by simp[hst,nC,nS,enSeq,e1,e3,eInt]⟩
       · simp[hd,hqC,hqS]
         refine callT_step (q0) [] [0] (by simp) ?_
         simp
         refine drawE_of [(3,[0,1,4,5,7,8,10,11,13,14]),(6,[0,1,7,8,10,11,13,14]),(9,[0,1,10,11,13,14]),(12,[0,1,13,14]),(15,[0,1]),(16,[0,1]),(17,[0,1]),(18,[0,1]),(19,[]),(20,[]),(21,[])] (by kernel_rfl) ?_
         simp
         refine callC_step (q1) [] [0] (by simp) (by simp[nearTo]) ?_
         simp
         refine callC_step (q2) [] [0] (by simp) (by simp[nearTo]) ?_
         simp
         refine callC_step (q3) [] [0] (by simp) (by simp[nearTo]) ?_
         simp
         refine callC_step (q4) [] [0] (by simp) (by simp[nearTo]) ?_
         simp
         refine callC_step (q5) [] [0] (by simp) (by simp[nearTo]) ?_
         simp
         first | refine app_lit (q:=1) vt_el_24 (by exact rfl) (by simp) (by exact rfl) (by exact rfl) (by simp) (by simp) (by first | (simp;done)|(simp;omega)) ?_|refine app_row vt_el_24 (by exact rfl) (by simp) (by exact rfl) (by simp) (by first | (simp;done)|(simp;omega)) ?_
         simp[w4]
         exact round_of hI' hS hμ (q+1) (by omega) (by omega) ⟨[0,1,2,3,7],by simp[hst,nC,nS,enSeq,e1,e3,eInt]⟩
     | false =>
       have h1:oneS top cp=flpS top (belowC cp 6):=if_neg (by rw[ho];simp)
       rw[h1] at hst
       rw[ho] at q0
       have hokc:=belowC_ok (n:=6) hok2
       generalize belowC cp 6=d0 at *
       have hm1:=mnP_pos (a:=top) (b:=12) (by omega) (by omega)
       have hmm:(if 12<top then (12:Int) else top)=mnP top 12:=rfl
       unfold flpS at hst
       simp only at hst
       generalize mnP top 12=n1 at *
       have q1:=l01Below_conT d0 2 hokc (by omega)
       have q2:=l01Below_conT (belowC d0 2) n1 (belowC_ok hokc) (by omega)
       have r1:=belowV_rng (belowC d0 2) (n:=n1) (by omega)
       have v3:IntKind.i64.wrap (top - 1)=top - 1:=wrap_id (by omega) (by omega)
       have v4:IntKind.i64.wrap (top - 1 - belowV (belowC d0 2) n1)=top - 1 - belowV (belowC d0 2) n1:=wrap_id (by omega) (by omega)
       generalize belowC (belowC d0 2) n1=d2 at *
       generalize belowV (belowC d0 2) n1=z2 at *
       generalize belowC d0 2=d1 at *
       generalize belowV d0 2=z1 at *
       rcases hnq with ⟨hqC,hqS,hal,-⟩|⟨hqC,hqS⟩
       · rw[hal] at hst
         simp[hd,hqC,hqS]
         refine callT_step (q0) [] [0] (by simp) ?_
         simp
         refine drawE_of [(3,[0,1,4,5,6,7,8]),(9,[0,1,4,5]),(10,[0,1]),(11,[0,1]),(12,[0,1]),(13,[0,1]),(14,[]),(15,[]),(16,[])] (by kernel_rfl) ?_
         simp[v3,hmm]
         refine callC_step (q1) [] [0] (by simp) (by simp[nearTo]) ?_
         simp
         refine callC_step (q2) [] [0] (by simp) (by simp[nearTo]) ?_
         simp[v4]
         first | refine app_lit (q:=1) vt_el_24 (by exact rfl) (by simp) (by exact rfl) (by exact rfl) (by simp) (by simp) (by first | (simp;done)|(simp;omega)) ?_|refine app_row vt_el_24 (by exact rfl) (by simp) (by exact rfl) (by simp) (by first | (simp;done)|(simp;omega)) ?_
         simp[w4]
         exact round_of hI' hS hμ (q+1) (by omega) (by omega) ⟨[0,1,2,3,6],by simp[hst,nC,nS,enSeq,e1,e3,eInt]⟩
       · simp[hd,hqC,hqS]
         refine callT_step (q0) [] [0] (by simp) ?_
         simp
         refine drawE_of [(3,[0,1,4,5,6,7,8]),(9,[0,1,4,5]),(10,[0,1]),(11,[0,1]),(12,[0,1]),(13,[0,1]),(14,[]),(15,[]),(16,[])] (by kernel_rfl) ?_
         simp[v3,hmm]
         refine callC_step (q1) [] [0] (by simp) (by simp[nearTo]) ?_
         simp
         refine callC_step (q2) [] [0] (by simp) (by simp[nearTo]) ?_
         simp[v4]
         first | refine app_lit (q:=1) vt_el_24 (by exact rfl) (by simp) (by exact rfl) (by exact rfl) (by simp) (by simp) (by first | (simp;done)|(simp;omega)) ?_|refine app_row vt_el_24 (by exact rfl) (by simp) (by exact rfl) (by simp) (by first | (simp;done)|(simp;omega)) ?_
         simp[w4]
         exact round_of hI' hS hμ (q+1) (by omega) (by omega) ⟨[0,1,2,3,7],by simp[hst,nC,nS,enSeq,e1,e3,eInt]⟩
   obtain rfl:q=sq:=by omega
   clear hI' hS hμ
   rw[←hPS]
   have hokS:PS.1.ok:=by rw[hPS];exact drS_ok hokA q
   have hlS:PS.2.length=q:=by rw[hPS];exact drS_len q
   have k4:=l01Below_conT PS.1 4 hokS (by omega)
   have r4:=belowV_rng PS.1 (n:=4) (by omega)
   have hmn:(nC 31 q 4=.nil 31∧nS 31 q (PS.2.map enSeq)=[]∧PS.2=[])∨(nC 31 q 4=.ref 4∧nS 31 q (PS.2.map enSeq)=[.arr 31 true (PS.2.map enSeq)]∧PS.2.length≠0):=by
    by_cases hi0:q=0
    · exact .inl ⟨if_pos hi0,if_pos hi0,List.eq_nil_of_length_eq_zero (by omega)⟩
    · exact .inr ⟨if_neg hi0,if_neg hi0,by omega⟩
   clear hPS
   obtain⟨n4,hn4⟩:∃ n4:Nat,belowV PS.1 4=n4:=⟨(belowV PS.1 4).toNat,by omega⟩
   rw[hn4] at k4 r4 hPO
   rw[Int.toNat_natCast] at hPO
   have hok4:=belowC_ok (n:=4) hokS
   generalize belowC PS.1 4=c4 at *
   rcases hmn with ⟨hmC,hmS,hSn⟩|⟨hmC,hmS,hSn⟩
   · rw[hmC,hmS]
     clear hmC hmS
     have hsV:sqV (inn,PS.2,PA.2,PO.2)=.nil 31:=if_pos (by rw[hSn];rfl)
     have hsS:sqS (inn,PS.2,PA.2,PO.2)=[]:=if_pos (by rw[hSn];rfl)
     have haV:anV (inn,PS.2,PA.2,PO.2)=.ref 1:=(if_neg hPn).trans (by rw[hsS];rfl)
     have haS:anS (inn,PS.2,PA.2,PO.2)=[.arr 60 true (PA.2.map enAnd)]:=if_neg hPn
     rw[hsV,hsS,haV,haS]
     simp[hlt2]
     refine callT_step (k4) [] [0] (by simp) ?_
     simp
     refine aw_loopN [true,false,false,false,false,false,false,false,true,true,false,false,false,false,false,false,true,false,true,false,false,false,false,false,false,false,false,false,false,false,false,false,false,false,false,false,false,false,false,false,false,false,false,false,false,false,false,false,false,false,false,false,false,false,false,false,false,false,false,false,false,false,false,false,false,false,false,false,false,false,false,false,false,false,false,false,false,false,false,false,false,false,false,false,false,false,false,false,false,false,false,false,false,false,false,false,false,false,false,false,false,false,false,false,false,false,false,false,false,false,false,false,false,false,false,false,false,false,false,false,false,false,false,false,false,false,false,false,false,false,false] (fun i:Nat=>i≤n4+1) (fun i:Nat=>[(18,.d (.int .i64 ((n4:Int) - i)))]) (fun i:Nat=>fun sl=>[enCur (drO top c4 i).1,zG,.var 28 [.d (.int .i64 inn),.nil 31,.ref 3,nC 3 i 4]]++[.arr 60 true (PA.2.map enAnd)]++nS 3 i ((drO top c4 i).2.map (e1 eInt))) (fun i:Nat=>n4+1 - i) 0 ?_ ?_ ?_
     · simp
     · exact⟨[0,1,2,3],by simp[zG,nC,nS,drO]⟩
     rintro I S μ hI' hS hμ j hj
     have hok5:=drO_ok (top:=top) hok4 j
     have hll:=drO_len (top:=top) (c:=c4) j
     have hst:drO top c4 (j+1)=(belowC (drO top c4 j).1 (mnP top 12),(drO top c4 j).2++[top - 1 - belowV (drO top c4 j).1 (mnP top 12)]):=rfl
     obtain⟨z,hz⟩:∃ z:Int,z=(n4:Int) - j:=⟨_,rfl⟩
     rw[←hz]
     by_cases hlt3:j<n4+1
     · skip
       generalize drO top c4 j=p at *
       obtain⟨cp,al⟩:=p
       simp only at hst hll hok5
       have hm1:=mnP_pos (a:=top) (b:=12) (by omega) (by omega)
       have hmm:(if 12<top then (12:Int) else top)=mnP top 12:=rfl
       generalize mnP top 12=n1 at *
       have q2:=l01Below_conT cp n1 hok5 (by omega)
       have r1:=belowV_rng cp (n:=n1) (by omega)
       have v3:IntKind.i64.wrap (top - 1)=top - 1:=wrap_id (by omega) (by omega)
       have v4:IntKind.i64.wrap (top - 1 - belowV cp n1)=top - 1 - belowV cp n1:=wrap_id (by omega) (by omega)
       have w5:IntKind.i64.wrap (z - 1)=(n4:Int) - ((j:Int)+1):=by rw[wrap_id (by omega) (by omega)];omega
       generalize belowC cp n1=d1 at *
       generalize belowV cp n1=z1 at *
       by_cases hj0:j=0
       · have hal:al=[]:=List.eq_nil_of_length_eq_zero (by omega)
         rw[hal] at hst
         have hqC:nC 3 j 4=.nil 3:=if_pos hj0
         have hqS:∀ es,nS 3 j es=[]:=fun es=>if_pos hj0
         simp[show (0:Int)≤z by omega,hqC,hqS]
         refine drawE_of [(7,[0,1,2,3]),(8,[0,1]),(9,[0,1]),(10,[]),(11,[]),(12,[])] (by kernel_rfl) ?_
         simp[v3,hmm]
         refine callC_step (q2) [] [0] (by simp) (by simp[nearTo]) ?_
         simp[v4]
         refine app_data vt_el_26 rfl (by simp) rfl (by simp) (by simp) (by first | (simp;done)|(simp;omega)) (by simp[flatP,flatD]) ?_
         simp[w5]
         exact round_of hI' hS hμ (j+1) (by omega) (by omega) ⟨[0,1,2,3,5],by simp[hst,nC,nS,e1,eInt]⟩
       · have hqC:nC 3 j 4=.ref 4:=if_neg hj0
         have hqS:∀ es,nS 3 j es=[.arr 3 true es]:=fun es=>if_neg hj0
         simp[show (0:Int)≤z by omega,hqC,hqS]
         refine drawE_of [(7,[0,1,2,3]),(8,[0,1]),(9,[0,1]),(10,[]),(11,[]),(12,[])] (by kernel_rfl) ?_
         simp[v3,hmm]
         refine callC_step (q2) [] [0] (by simp) (by simp[nearTo]) ?_
         simp[v4]
         refine app_data vt_el_26 rfl (by simp) rfl (by simp) (by simp) (by first | (simp;done)|(simp;omega)) (by simp[flatP,flatD]) ?_
         simp[w5]
         exact round_of hI' hS hμ (j+1) (by omega) (by omega) ⟨[0,1,2,3,6],by simp[hst,nC,nS,e1,eInt]⟩
     obtain rfl:j=n4+1:=by omega
     rw[←hPO]
     have hqC:nC 3 (n4+1) 4=.ref 4:=if_neg (by omega)
     have hqS:∀ es,nS 3 (n4+1) es=[.arr 3 true es]:=fun es=>if_neg (by omega)
     simp[show ¬ (0:Int)≤z by omega,show z<0 by omega,hqC,hqS]
     exact⟨[0,3],by simp⟩
   · rw[hmC,hmS]
     clear hmC hmS
     have hsV:sqV (inn,PS.2,PA.2,PO.2)=.ref 1:=if_neg hSn
     have hsS:sqS (inn,PS.2,PA.2,PO.2)=[.arr 31 true (PS.2.map enSeq)]:=if_neg hSn
     have haV:anV (inn,PS.2,PA.2,PO.2)=.ref 2:=(if_neg hPn).trans (by rw[hsS];rfl)
     have haS:anS (inn,PS.2,PA.2,PO.2)=[.arr 60 true (PA.2.map enAnd)]:=if_neg hPn
     rw[hsV,hsS,haV,haS]
     simp[hlt2]
     refine callT_step (k4) [] [0] (by simp) ?_
     simp
     refine aw_loopN [true,false,false,false,false,false,false,false,true,true,false,false,false,false,false,false,true,false,true,false,false,false,false,false,false,false,false,false,false,false,false,false,false,false,false,false,false,false,false,false,false,false,false,false,false,false,false,false,false,false,false,false,false,false,false,false,false,false,false,false,false,false,false,false,false,false,false,false,false,false,false,false,false,false,false,false,false,false,false,false,false,false,false,false,false,false,false,false,false,false,false,false,false,false,false,false,false,false,false,false,false,false,false,false,false,false,false,false,false,false,false,false,false,false,false,false,false,false,false,false,false,false,false,false,false,false,false,false,false,false,false] (fun i:Nat=>i≤n4+1) (fun i:Nat=>[(18,.d (.int .i64 ((n4:Int) - i)))]) (fun i:Nat=>fun sl=>[enCur (drO top c4 i).1,zG,.var 28 [.d (.int .i64 inn),.ref 4,.ref 3,nC 3 i 5]]++[.arr 60 true (PA.2.map enAnd)]++[.arr 31 true (PS.2.map enSeq)]++nS 3 i ((drO top c4 i).2.map (e1 eInt))) (fun i:Nat=>n4+1 - i) 0 ?_ ?_ ?_
     · simp
     · exact⟨[0,1,2,3,4],by simp[zG,nC,nS,drO]⟩
     rintro I S μ hI' hS hμ j hj
     have hok5:=drO_ok (top:=top) hok4 j
     have hll:=drO_len (top:=top) (c:=c4) j
     have hst:drO top c4 (j+1)=(belowC (drO top c4 j).1 (mnP top 12),(drO top c4 j).2++[top - 1 - belowV (drO top c4 j).1 (mnP top 12)]):=rfl
     obtain⟨z,hz⟩:∃ z:Int,z=(n4:Int) - j:=⟨_,rfl⟩
     rw[←hz]
     by_cases hlt3:j<n4+1
     · skip
       generalize drO top c4 j=p at *
       obtain⟨cp,al⟩:=p
       simp only at hst hll hok5
       have hm1:=mnP_pos (a:=top) (b:=12) (by omega) (by omega)
       have hmm:(if 12<top then (12:Int) else top)=mnP top 12:=rfl
       generalize mnP top 12=n1 at *
       have q2:=l01Below_conT cp n1 hok5 (by omega)
       have r1:=belowV_rng cp (n:=n1) (by omega)
       have v3:IntKind.i64.wrap (top - 1)=top - 1:=wrap_id (by omega) (by omega)
       have v4:IntKind.i64.wrap (top - 1 - belowV cp n1)=top - 1 - belowV cp n1:=wrap_id (by omega) (by omega)
       have w5:IntKind.i64.wrap (z - 1)=(n4:Int) - ((j:Int)+1):=by rw[wrap_id (by omega) (by omega)];omega
       generalize belowC cp n1=d1 at *
       generalize belowV cp n1=z1 at *
       by_cases hj0:j=0
       · have hal:al=[]:=List.eq_nil_of_length_eq_zero (by omega)
         rw[hal] at hst
         have hqC:nC 3 j 5=.nil 3:=if_pos hj0
         have hqS:∀ es,nS 3 j es=[]:=fun es=>if_pos hj0
         simp[show (0:Int)≤z by omega,hqC,hqS]
         refine drawE_of [(7,[0,1,2,3]),(8,[0,1]),(9,[0,1]),(10,[]),(11,[]),(12,[])] (by kernel_rfl) ?_
         simp[v3,hmm]
         refine callC_step (q2) [] [0] (by simp) (by simp[nearTo]) ?_
         simp[v4]
         refine app_data vt_el_26 rfl (by simp) rfl (by simp) (by simp) (by first | (simp;done)|(simp;omega)) (by simp[flatP,flatD]) ?_
         simp[w5]
         exact round_of hI' hS hμ (j+1) (by omega) (by omega) ⟨[0,1,2,3,4,6],by simp[hst,nC,nS,e1,eInt]⟩
       · have hqC:nC 3 j 5=.ref 5:=if_neg hj0
         have hqS:∀ es,nS 3 j es=[.arr 3 true es]:=fun es=>if_neg hj0
         simp[show (0:Int)≤z by omega,hqC,hqS]
         refine drawE_of [(7,[0,1,2,3]),(8,[0,1]),(9,[0,1]),(10,[]),(11,[]),(12,[])] (by kernel_rfl) ?_
         simp[v3,hmm]
         refine callC_step (q2) [] [0] (by simp) (by simp[nearTo]) ?_
         simp[v4]
         refine app_data vt_el_26 rfl (by simp) rfl (by simp) (by simp) (by first | (simp;done)|(simp;omega)) (by simp[flatP,flatD]) ?_
         simp[w5]
         exact round_of hI' hS hμ (j+1) (by omega) (by omega) ⟨[0,1,2,3,4,7],by simp[hst,nC,nS,e1,eInt]⟩
     obtain rfl:j=n4+1:=by omega
     rw[←hPO]
     have hqC:nC 3 (n4+1) 5=.ref 5:=if_neg (by omega)
     have hqS:∀ es,nS 3 (n4+1) es=[.arr 3 true es]:=fun es=>if_neg (by omega)
     simp[show ¬ (0:Int)≤z by omega,show z<0 by omega,hqC,hqS]
     exact⟨[0,4,3],by simp⟩
end Go.Proofs.Ytnjedabjbeipeaa
