/-
  What can be observed in a net, by abstract walks: the program.
  Conditions: those typed in each theorem.
-/
import Derived.Test.YtnjedabjbeipeaaRa
namespace Go.Proofs.Ytnjedabjbeipeaa
open Go.RowKit Go.ChangeShapes Go.WideShapes
set_option linter.unusedVariables false
set_option linter.unusedSimpArgs false
attribute [local simp ↓] condG_true condG_false condB_true condB_false
attribute [local simp] AWp_skip AWp_region_t AWp_region_d AWp_region_f still_mk AWp_seq AWp_cond condV_bool condB AWp_block AWp_exit AWp_ret
attribute [local simp] AOps_nil AOp_move AOp_assign AOp_pick AOp_binOp AOp_unOp AOp_convert AOp_len AOp_max AOp_min AOp_indexAddr AOp_load
attribute [local simp] AOp_fieldAddr AOp_field AOp_extract AOp_nilCheck AOp_build AOp_alloc AOp_box AOp_call AOp_store AOp_append AOp_buildSlice nextB_some
attribute [local simp] nextB_none adoptO adoptC AOp_makeSlice AOp_slice AOp_makeFunc AOp_guard guardD_some guardG_bool guardG_undef nextO_some nextS_some
attribute [local simp] nextZ_some nextL_some nextM_some nextT_some sliceO sliceL sliceT partO partV boundV funcO pickO
attribute [local simp] convO lenO maxO minO idxO extO nilO buildO litO litC makeO chunks
attribute [local simp] fillV placeOf thenA inBlockA St.get St.put St.eval ofCell evalT abin_add abin_sub abin_mul
attribute [local simp] abin_quo abin_rem abin_and abin_or abin_xor abin_andNot abin_shl abin_shr abin_shlu abin_eql abin_eqp abin_neq
attribute [local simp] abin_lss abin_leq abin_gtr abin_geq abin_eqlb abin_neqb aun pickV lenV intOf? indexV takeD
attribute [local simp] takeV loadV fieldAddrV fieldV ofX presD presDs pres presAll cellsV V.cell storeV
attribute [local simp] freezeC putAt kill takeC plains plainV scalarV nat_neg keepT sets eSl e1
attribute [local simp] e2 e3 e4 eInt eBool abinS_d abinS_agg abinS nilEq abin_eqb AOp_makeMap AOp_lookup
attribute [local simp] AOp_mapUpdate lookG_some updG_some mapV kyOf vlOf lookV vlV buildA afterCall inst inst1
attribute [local simp] inst1s instD instDs RetA resVs resV gives give1 give1s Le isPin leSlots
attribute [local simp] leS leTmps leV le0 le0s ren ren0 renS ren0s frame enterT afterT_some
attribute [local simp] afterC_some lives Slot.live arrsOk viewV view0 renT rens renSs setAll List.range'_succ RetT
attribute [local simp] RetW joinV leT AOpsE_nil AOpsE_cons AOpsT_nil AOpsT_cons isCallT isFnO callOf callVC_fn condC_true
attribute [local simp] condC_false beginT_mk beginX_mk AOpsX_zero thenT_mk pickE pickT isT loose namesOf namesV names1
attribute [local simp] names0 stableN sameAt Op.operands Call.operands
abbrev nI (v:Nat):Int:=v
def tdD (t:List Nat):List (List D):=(t.map nI).map (e1 eInt)
@[simp] theorem tdD_len {t:List Nat}:(tdD t).length=t.length:=by simp[tdD]
@[simp] theorem tdD_nil:tdD []=[]:=rfl
theorem tdD_snoc {t:List Nat} {v:Nat}:tdD t++[[D.int .i64 (v:Int)]]=tdD (t++[v]):=by simp[tdD,e1,eInt,nI]
theorem tdD_one {v:Nat}:[[D.int .i64 (v:Int)]]=tdD [v]:=rfl
theorem tdD_cells {t:List Nat}:∀ c∈tdD t,c.length=1:=fun c hc=>by
 obtain⟨x,_,rfl⟩:=List.mem_map.1 hc;rfl
abbrev smD (s:List Bool):List (List D):=s.map (e1 eBool)
theorem lit_quo {l:Int} (h0:0≤l) (h1:l≤1048576):IntKind.i64.wrap (l.tdiv 2)=(litN l:Int):=by
 rw[Int.tdiv_eq_ediv_of_nonneg h0,wrap_id (by omega) (by omega)]
 unfold litN;omega
theorem vis_seen0 {s:List Bool} {l:Int} (h0:0≤l) (h1:l≤1048576) (hl:litN l<s.length) (hs:getB s (litN l)=true) :
 ConT Try.prog 130 [.d (.int .i64 l),.ptr 0 0,.ptr 1 0] [.var 78 [.ref 2],.var 26 [.nil 3],.arr 4 true (smD s)] (.tup []) [.var 78 [.ref 2],.var 26 [.nil 3],.arr 4 true (smD s)]:=by
 have q:=lit_quo h0 h1
 have hat:=getB_at hl
 rw[hs] at hat
 generalize litN l=v at *
 refine conT_of (by kernel_rfl) Try.func130 rfl rfl rfl (by simp[laters,Later]) (by simp[lives,Slot.live]) ?_
 simp[q,hat]
 exact⟨[0,1,2],by simp⟩
theorem vis_seen1 {s:List Bool} {t:List Nat} {l:Int} (h0:0≤l) (h1:l≤1048576) (hl:litN l<s.length) (hs:getB s (litN l)=true) :
 ConT Try.prog 130 [.d (.int .i64 l),.ptr 0 0,.ptr 1 0] [.var 78 [.ref 2],.var 26 [.ref 3],.arr 4 true (smD s),.arr 3 true (tdD t)] (.tup []) [.var 78 [.ref 2],.var 26 [.ref 3],.arr 4 true (smD s),.arr 3 true (tdD t)]:=by
 have q:=lit_quo h0 h1
 have hat:=getB_at hl
 rw[hs] at hat
 generalize litN l=v at *
 refine conT_of (by kernel_rfl) Try.func130 rfl rfl rfl (by simp[laters,Later]) (by simp[lives,Slot.live]) ?_
 simp[q,hat]
 exact⟨[0,1,2,3],by simp⟩
theorem vis_new0 {s:List Bool} {l:Int} (h0:0≤l) (h1:l≤1048576) (hl:litN l<s.length) (hs:getB s (litN l)=false) :
 ConT Try.prog 130 [.d (.int .i64 l),.ptr 0 0,.ptr 1 0] [.var 78 [.ref 2],.var 26 [.nil 3],.arr 4 true (smD s)] (.tup []) [.var 78 [.ref 2],.var 26 [.ref 3],.arr 4 true (smD (s.set (litN l) true)),.arr 3 true (tdD [litN l])]:=by
 have q:=lit_quo h0 h1
 have hat:=getB_at hl
 have hset:=map_setB (s:=s) (v:=litN l) (b:=true)
 rw[hs] at hat
 refine conT_of (by kernel_rfl) Try.func130 rfl rfl rfl (by simp[laters,Later]) (by simp[lives,Slot.live]) ?_
 generalize s.set (litN l) true=s2 at *
 generalize litN l=v at *
 simp[q,hat,hset]
 refine app_data vt_el_26 rfl (by simp) rfl (by simp) (by simp) (by first | (simp;done)|(simp;omega)) (by simp[flatP,flatD]) ?_
 simp
 exact⟨[0,1,2,4],by simp[tdD_one]⟩
theorem vis_new1 {s:List Bool} {t:List Nat} {l:Int} (h0:0≤l) (h1:l≤1048576) (hl:litN l<s.length) (hs:getB s (litN l)=false) (ht:t.length≤1048576) :
 ConT Try.prog 130 [.d (.int .i64 l),.ptr 0 0,.ptr 1 0] [.var 78 [.ref 2],.var 26 [.ref 3],.arr 4 true (smD s),.arr 3 true (tdD t)] (.tup []) [.var 78 [.ref 2],.var 26 [.ref 4],.arr 4 true (smD (s.set (litN l) true)),.dead,.arr 3 true (tdD (t++[litN l]))]:=by
 have q:=lit_quo h0 h1
 have hat:=getB_at hl
 have hset:=map_setB (s:=s) (v:=litN l) (b:=true)
 rw[hs] at hat
 refine conT_of (by kernel_rfl) Try.func130 rfl rfl rfl (by simp[laters,Later]) (by simp[lives,Slot.live]) ?_
 generalize s.set (litN l) true=s2 at *
 generalize litN l=v at *
 simp[q,hat,hset]
 refine app_data vt_el_26 rfl (by simp) rfl (by simp) (by simp) (by first | (simp;done)|(simp;omega)) (by simp[flatP,flatD]) ?_
 simp
 exact⟨[0,1,2,3,5],by simp[tdD_snoc]⟩
def tdS (b:Bool) (s:List Bool) (t:List Nat) (sl:List Slot):List Slot :=
 if b=true then (sl.set 1 (.arr 4 true (smD s))).set 3 (.var 26 [.ref 4])++[.arr 3 true (tdD t)] else sl.set 1 (.arr 4 true (smD s))
theorem tdS_t {s:List Bool} {t:List Nat} {sl:List Slot}:tdS true s t sl=(sl.set 1 (.arr 4 true (smD s))).set 3 (.var 26 [.ref 4])++[.arr 3 true (tdD t)]:=rfl
theorem tdS_f {s:List Bool} {t:List Nat} {sl:List Slot}:tdS false s t sl=sl.set 1 (.arr 4 true (smD s)):=rfl
theorem visO_seen {s:List Bool} {t:List Nat} {v:Nat} (h:getB s v=true):visO (s,t) v=(s,t):=by simp[visO,h]
theorem visO_new {s:List Bool} {t:List Nat} {v:Nat} (h:getB s v=false):visO (s,t) v=(s.set v true,t++[v]):=by simp[visO,h]
theorem snoc_get {t:List Nat} {v:Nat}:(tdD (t++[v]))[t.length]? = some [D.int .i64 v]:=by simp[tdD,e1,eInt,nI]
theorem snoc_take {t:List Nat} {v:Nat}:(tdD (t++[v])).take t.length=tdD t:=by simp[tdD,List.take_left']
theorem foldl_take {α β:Type} {f:β→α→β} {b:β} {xs:List α} {k:Nat} {x:α} (hx:xs[k]? = some x):(xs.take (k+1)).foldl f b=f ((xs.take k).foldl f b) x:=by
 rw[take_snoc' hx,List.foldl_append];rfl
set_option maxRecDepth 100000 in
set_option maxHeartbeats 4000000 in
theorem observable_con (x:GrD) (hx:fitGr 1048576 x) (hok:netOkB x=true):ConC Try.prog 82 [igr x] (bools (obsB x)):=by
 obtain⟨⟨n1,n2,n3,n4,n5,n6⟩,-,o2,-⟩:=netOk_of hok
 obtain⟨hF,hgl,hNi,hno⟩:=ok_sizes hok
 have hN:=grN_eq x
 obtain⟨st1,st2,st3⟩:=startO hok
 have st0:InvO x (List.replicate (grN x) false,[]):=⟨by simp,fun u h=>(by rw[getB_rep] at h;cases h),by simp,by simp,by simp[cntO]⟩
 have hNt:(1+x.1+(x.2.1.length:Int)+(x.2.2.1.length:Int)).toNat=grN x:=by omega
 have hrep:List.replicate (grN x) [D.bool false]=smD (List.replicate (grN x) false):=rep_bools
 refine con_of (by kernel_rfl) Try.func82 rfl rfl rfl ?_
 simp[enGr]
 refine call_step (iNodeCnt_con x ⟨n1,n2⟩ n3 n4) ?_
 simp
 refine⟨⟨by omega,by omega⟩,?_⟩
 rw[hNt,hrep]
 simp
 refine aw_loopN [false,true,false,true,true,true,false,false,false,false,false,false,false,false,false,false,false,true,true,true,false,false,false,false,false,false,false,false,false,false,false,false,false,false,false,false,false,false,false,false,false,false,false,false,false,false,false,false,false,false,false,false,false,false,false,false,false,false,false,false,false,false,false,false,false,false,false,false,false,false,false,false,false,false,false,false,false,false,false,false,false,false,false,false,false] (fun i:Nat×Bool×List Bool×List Nat=>i.1≤x.2.2.2.length∧(i.2.2.1,i.2.2.2)=((x.2.2.2.map litN).take i.1).foldl visO (List.replicate (grN x) false,[])∧InvO x (i.2.2.1,i.2.2.2)∧(i.2.1=false→i.2.2.2=[])) (fun i:Nat×Bool×List Bool×List Nat=>[(19,.d (.int .i64 i.1))]) (fun i:Nat×Bool×List Bool×List Nat=>tdS i.2.1 i.2.2.1 i.2.2.2) (fun i:Nat×Bool×List Bool×List Nat=>x.2.2.2.length - i.1) (0,false,List.replicate (grN x) false,[]) ?_ ?_ ?_
 · exact⟨Nat.zero_le _,rfl,st0,fun _=>rfl⟩
 · exact⟨[0,1,2,3],by simp[tdS_f]⟩
 rintro I S μ hI hS hμ ⟨i,b,s,t⟩ ⟨hi,hst,hinv,hb⟩
 simp only at hi hst hinv hb
 by_cases hlt:i<x.2.2.2.length
 · have hx1:x.2.2.2[i]? = some x.2.2.2[i]:=List.getElem?_eq_getElem hlt
   have hx2:(x.2.2.2.map litN)[i]? = some (litN x.2.2.2[i]):=by rw[List.getElem?_map,hx1];rfl
   have hmem:x.2.2.2[i]∈x.2.2.2:=List.getElem_mem hlt
   obtain⟨g1,g2⟩:=root_lt hok (outs_root hmem)
   have hob:=Obs.out (x:=x) hmem
   have hf:=foldl_take (f:=visO) (b:=(List.replicate (grN x) false,[])) hx2
   rw[←hst] at hf
   have g3:x.2.2.2[i]≤1048576:=by have:litN x.2.2.2[i]=x.2.2.2[i].toNat / 2:=rfl;omega
   obtain⟨i1,i2,-,-,-,-⟩:=visO_facts hinv hob g2
   have w1:IntKind.i64.wrap ((i:Int)+1)=(i:Int)+1:=wrap_id (by omega) (by omega)
   have hsl:s.length=grN x:=hinv.len
   have hsm:=hinv.small
   simp only at hsm
   generalize x.2.2.2[i]=l at *
   rcases Bool.eq_false_or_eq_true (getB s (litN l)) with hs|hs
   · rw[visO_seen hs] at hf i1
     cases b with
     | false =>
       obtain rfl:=hb rfl
       have k:=vis_seen0 g1 g3 (by omega) hs
       rw[tdS_f]
       simp[decide_eq_true hlt,hx1,AOp_callv,callV_fn]
       refine callT_step (k) [] [2,3,1] (by simp) ?_
       simp[w1]
       exact round_of hI hS hμ (i+1,false,s,[]) ⟨by omega,hf.symm,hinv,fun _=>rfl⟩ (by simp;omega) ⟨[0,1,2,3],by simp[tdS_f]⟩
     | true =>
       have k:=vis_seen1 (t:=t) g1 g3 (by omega) hs
       rw[tdS_t]
       simp[decide_eq_true hlt,hx1,AOp_callv,callV_fn]
       refine callT_step (k) [] [2,3,1,4] (by simp) ?_
       simp[w1]
       exact round_of hI hS hμ (i+1,true,s,t) ⟨by omega,hf.symm,hinv,fun h=>by cases h⟩ (by simp;omega) ⟨[0,1,2,3,4],by simp[tdS_t]⟩
   · rw[visO_new hs] at hf i1
     cases b with
     | false =>
       obtain rfl:=hb rfl
       have k:=vis_new0 g1 g3 (by omega) hs
       rw[tdS_f]
       simp[decide_eq_true hlt,hx1,AOp_callv,callV_fn]
       refine callT_step (k) [] [2,3,1] (by simp) ?_
       simp[w1]
       exact round_of hI hS hμ (i+1,true,s.set (litN l) true,[litN l]) ⟨by omega,hf.symm,i1,fun h=>by cases h⟩ (by simp;omega) ⟨[0,1,2,3,4],by simp[tdS_t]⟩
     | true =>
       have k:=vis_new1 (t:=t) g1 g3 (by omega) hs (by omega)
       rw[tdS_t]
       simp[decide_eq_true hlt,hx1,AOp_callv,callV_fn]
       refine callT_step (k) [] [2,3,1,4] (by simp) ?_
       simp[w1]
       exact round_of hI hS hμ (i+1,true,s.set (litN l) true,t++[litN l]) ⟨by omega,hf.symm,i1,fun h=>by cases h⟩ (by simp;omega) ⟨[0,1,2,3,5],by simp[tdS_t]⟩
 obtain rfl:i=x.2.2.2.length:=by omega
 rw[List.take_of_length_le (by simp)] at hst
 rw[←hst] at st1 st2 st3
 clear hI hS hμ
 cases b with
 | false =>
   obtain rfl:=hb rfl
   obtain rfl:=endO st1 st2 st3
   rw[tdS_f]
   simp[decide_eq_false hlt,hlt]
   refine aw_loopU [false,true,false,true,true,true,false,false,false,false,false,false,false,false,false,false,false,false,false,false,false,false,false,false,false,false,false,false,false,false,false,false,false,false,false,false,false,false,false,false,false,false,false,false,false,false,false,false,false,false,false,false,false,false,false,false,false,false,false,false,false,false,false,false,false,false,false,false,false,false,false,false,false,false,false,false,false,false,false,false,false,false,false,false,false] (fun i:Unit=>True) (fun i:Unit=>[]) (fun i:Unit=>[]) (fun i:Unit=>0) () ?_ ?_ ?_
   · exact trivial
   · exact⟨[0,1,2,3],by simp⟩
   rintro I S μ hI hS hμ i -
   simp
 | true =>
   rw[tdS_t]
   simp[decide_eq_false hlt,hlt]
   refine aw_loopU [false,true,false,true,true,true,false,false,false,false,false,false,false,false,false,false,false,false,false,false,false,false,false,false,false,false,false,false,false,false,false,false,false,false,false,false,false,false,false,false,false,false,false,false,false,false,false,false,false,false,false,false,false,false,false,false,false,false,false,false,false,false,false,false,false,false,false,false,false,false,false,false,false,false,false,false,false,false,false,false,false,false,false,false,false] (fun i:List Bool×List Nat=>InvO x i∧DoneO x i∧∀ l∈x.2.2.2,getB i.1 (litN l)=true) (fun i:List Bool×List Nat=>[]) (fun i:List Bool×List Nat=>[(1,.arr 4 true (smD i.1)),(4,.arr 3 true (tdD i.2))]) (fun i:List Bool×List Nat=>2*cntO i.1+i.2.length) (s,t) ?_ ?_ ?_
   · exact⟨st1,st2,st3⟩
   · exact⟨[0,1,2,3,4],by simp⟩
   rintro I S μ hI hS hμ ⟨s,t⟩ ⟨s1,s2,s3⟩
   simp only at s3
   rcases List.eq_nil_or_concat t with rfl|⟨t,v,rfl⟩
   · obtain rfl:=endO s1 s2 s3
     simp
   rw[List.concat_eq_append] at s1 s2
   obtain⟨p1,p2,p3,p4,p5⟩:=popO s1
   obtain⟨q1,q2,q3,q4⟩:=stepO hok s1 s2
   have s3':∀ l∈x.2.2.2,getB ((kidsO x v).foldl visO (s,t)).1 (litN l)=true:=fun l hl=>q3 _ (s3 l hl)
   have hE1:=snoc_get (t:=t) (v:=v)
   have hE2:=snoc_take (t:=t) (v:=v)
   have hE3:(tdD (t++[v])).length=t.length+1:=by simp
   have hE4:=tdD_cells (t:=t++[v])
   have hsl:s.length=grN x:=p1.len
   have w1:IntKind.i64.wrap ((t.length:Int)+1 - 1)=(t.length:Int):=by rw[wrap_id (by omega) (by omega)];omega
   have w1b:IntKind.i64.wrap (t.length:Int)=(t.length:Int):=wrap_id (by omega) (by omega)
   have hQ:(firstQ x:Int)=1+x.1:=by unfold firstQ;omega
   have hGQ:=firstG_eq (x:=x)
   simp only
   rw[List.concat_eq_append]
   generalize hE:tdD (t++[v])=E at *
   have hE5:∀ h:t.length<E.length,E[t.length]'h=[D.int .i64 (v:Int)]:=fun h=>Option.some.inj (by rw[←hE1,List.getElem?_eq_getElem h])
   have hkO:kidsO x v=if firstG x≤v then [kidA x v,kidB x v] else if firstQ x≤v then (seqAt x (v - firstQ x)).2.2.map litN else []:=rfl
   generalize kidsO x v=ks at *
   simp[hE1,hE2,hE3,eq_true hE4,hE5,w1,w1b]
   by_cases hF1:firstG x≤v
   · rw[if_pos hF1] at hkO
     subst hkO
     obtain⟨ha,a1,a2,a3,a4,a5,a6⟩:=and_at hok hF1 p3
     have w2:IntKind.i64.wrap ((v:Int) - (1+x.1+x.2.1.length))=(v:Int) - (1+x.1+x.2.1.length):=wrap_id (by omega) (by omega)
     have ht:((v:Int) - (1+x.1+x.2.1.length)).toNat=v - firstG x:=by omega
     have hL:(enAnd (andAt x v)).length=2:=rfl
     have hn0:¬ (v:Int) - (1+x.1+x.2.1.length)<0:=by omega
     have eA:kidA x v=litN (andAt x v).1:=rfl
     have eB:kidB x v=litN (andAt x v).2:=rfl
     have fA:=visO_facts p1 (.kid p2 (show kidA x v∈kidsO x v by unfold kidsO;rw[if_pos hF1];simp)) (show kidA x v<grN x by omega)
     simp only[List.foldl_cons,List.foldl_nil] at q1 q2 q3 q4 s3'
     refine call_step (isAnd_con x v ⟨n1,n2⟩ n3 n4) ?_
     simp[enGr,hF1,p3]
     refine⟨by kernel_rfl,?_⟩
     refine call_step (firstAnd_con x ⟨n1,n2⟩ n3) ?_
     simp[w2,ht,ha,hL,hn0,enAnd,AOp_callv,callV_fn,enGr]
     rw[eA,eB] at q1 q2 q3 q4 s3'
     have gA:(andAt x v).1≤1048576:=by unfold litN at eA;omega
     have gB:(andAt x v).2≤1048576:=by unfold litN at eB;omega
     have lA:litN (andAt x v).1<grN x:=by omega
     have lB:litN (andAt x v).2<grN x:=by omega
     rcases Bool.eq_false_or_eq_true (getB s (litN (andAt x v).1)) with hsA|hsA
     · rw[visO_seen hsA] at q1 q2 q3 q4 s3'
       refine callT_step (vis_seen1 (t:=t) a1 gA (by omega) hsA) [] [2,3,1,5] (by simp) ?_
       simp[AOp_callv,callV_fn]
       rcases Bool.eq_false_or_eq_true (getB s (litN (andAt x v).2)) with hsB|hsB
       · rw[visO_seen hsB] at q1 q2 q3 q4 s3'
         refine callT_step (vis_seen1 (t:=t) a2 gB (by omega) hsB) [] [2,3,1,5] (by simp) ?_
         simp
         exact round_of hI hS hμ (s,t) ⟨q1,q2,s3'⟩ (by simp) ⟨[0,1,2,3,5],by simp⟩
       · rw[visO_new hsB] at q1 q2 q3 q4 s3'
         refine callT_step (vis_new1 (t:=t) a2 gB (by omega) hsB (by omega)) [] [2,3,1,5] (by simp) ?_
         simp
         exact round_of hI hS hμ (_,_) ⟨q1,q2,s3'⟩ (by simpa using q4) ⟨[0,1,2,3,7],by simp⟩
     · rw[visO_new hsA] at q1 q2 q3 q4 s3'
       have hl1:(s.set (litN (andAt x v).1) true).length=grN x:=by simp[hsl]
       have kA:=vis_new1 (t:=t) a1 gA (by omega) hsA (by omega)
       generalize s.set (litN (andAt x v).1) true=s5 at *
       refine callT_step (kA) [] [2,3,1,5] (by simp) ?_
       simp[AOp_callv,callV_fn]
       rcases Bool.eq_false_or_eq_true (getB s5 (litN (andAt x v).2)) with hsB|hsB
       · rw[visO_seen hsB] at q1 q2 q3 q4 s3'
         refine callT_step (vis_seen1 (t:=t++[litN (andAt x v).1]) a2 gB (by omega) hsB) [] [2,3,1,7] (by simp) ?_
         simp
         exact round_of hI hS hμ (_,_) ⟨q1,q2,s3'⟩ (by simpa using q4) ⟨[0,1,2,3,7],by simp⟩
       · rw[visO_new hsB] at q1 q2 q3 q4 s3'
         refine callT_step (vis_new1 (t:=t++[litN (andAt x v).1]) a2 gB (by omega) hsB (by simp;omega)) [] [2,3,1,7] (by simp) ?_
         simp
         exact round_of hI hS hμ (_,_) ⟨q1,q2,s3'⟩ (by simpa using q4) ⟨[0,1,2,3,8],by simp⟩
   rw[if_neg hF1] at hkO
   by_cases hQ1:firstQ x≤v
   · rw[if_pos hQ1] at hkO
     obtain⟨e1',e2'⟩:=seqAt_mem (x:=x) (i:=v - firstQ x) (by omega)
     have hro:∀ l∈(seqAt x (v - firstQ x)).2.2,0≤l∧litN l<grN x:=fun l hl=>root_lt hok (seq_root (by omega) hl)
     have hkd:∀ l∈(seqAt x (v - firstQ x)).2.2,Obs x (litN l):=fun l hl=>.kid p2 (by unfold kidsO;rw[if_neg hF1,if_pos hQ1];exact List.mem_map.2 ⟨l,hl,rfl⟩)
     have hfit:(seqAt x (v - firstQ x)).2.2.length≤1048576:=hx.2.1 _ e2'
     have hLs:(enSeq (seqAt x (v - firstQ x))).length=3:=rfl
     have w2:IntKind.i64.wrap ((v:Int) - (1+x.1))=(v:Int) - (1+x.1):=wrap_id (by omega) (by omega)
     have ht:((v:Int) - (1+x.1)).toNat=v - firstQ x:=by omega
     have hn0:¬ (v:Int) - (1+x.1)<0:=by omega
     subst hkO
     refine call_step (isAnd_con x v ⟨n1,n2⟩ n3 n4) ?_
     simp[enGr,hF1]
     refine call_step (firstSeq_con x ⟨n1,n2⟩) ?_
     simp[show 1+x.1≤(v:Int) by omega]
     refine⟨by kernel_rfl,?_⟩
     refine call_step (firstSeq_con x ⟨n1,n2⟩) ?_
     simp[w2,ht,e1',hLs,hn0,enSeq,enGr]
     generalize seqAt x (v - firstQ x)=sq at *
     generalize hins:sq.2.2=ins at *
     refine aw_loopU [false,true,false,true,true,true,false,false,false,false,false,false,false,false,false,false,false,false,false,false,false,false,false,false,false,false,false,false,false,false,false,false,false,false,false,false,false,false,false,false,false,false,false,false,false,false,false,false,false,false,false,false,false,false,false,false,false,false,false,false,false,false,false,false,false,false,false,false,false,false,false,false,false,false,true,true,true,false,false,false,false,false,false,false,false] (fun i:Nat×List Bool×List Nat=>i.1≤ins.length∧InvO x (i.2.1,i.2.2)∧(i.2.1,i.2.2)=((ins.map litN).take i.1).foldl visO (s,t)) (fun i:Nat×List Bool×List Nat=>[(76,.d (.int .i64 i.1))]) (fun i:Nat×List Bool×List Nat=>[(1,.arr 4 true (smD i.2.1)),(5,.arr 3 true (tdD i.2.2))]) (fun i:Nat×List Bool×List Nat=>ins.length - i.1) (0,s,t) ?_ ?_ ?_
     · exact⟨Nat.zero_le _,p1,rfl⟩
     · exact⟨[0,1,2,3,4,5],by simp⟩
     rintro I2 S2 μ2 hI2 hS2 hμ2 ⟨i,s5,t5⟩ ⟨hi,hinv,hst⟩
     simp only at hi hinv hst
     by_cases hlt:i<ins.length
     · have hx1:ins[i]? = some ins[i]:=List.getElem?_eq_getElem hlt
       have hx2:(ins.map litN)[i]? = some (litN ins[i]):=by rw[List.getElem?_map,hx1];rfl
       obtain⟨g1,g2⟩:=hro _ (List.getElem_mem hlt)
       have hob:=hkd _ (List.getElem_mem hlt)
       have hf:=foldl_take (f:=visO) (b:=(s,t)) hx2
       rw[←hst] at hf
       have g3:ins[i]≤1048576:=by have:litN ins[i]=ins[i].toNat / 2:=rfl;omega
       obtain⟨i1,-,-,-,-,-⟩:=visO_facts hinv hob g2
       have w3:IntKind.i64.wrap ((i:Int)+1)=(i:Int)+1:=wrap_id (by omega) (by omega)
       have hsl5:s5.length=grN x:=hinv.len
       have hsm:=hinv.small
       simp only at hsm
       generalize ins[i]=l at *
       rcases Bool.eq_false_or_eq_true (getB s5 (litN l)) with hs|hs
       · rw[visO_seen hs] at hf i1
         simp[decide_eq_true hlt,hx1,AOp_callv,callV_fn]
         refine callT_step (vis_seen1 (t:=t5) g1 g3 (by omega) hs) [] [2,3,1,5] (by simp) ?_
         simp[w3]
         exact round_of hI2 hS2 hμ2 (i+1,s5,t5) ⟨by omega,hinv,hf.symm⟩ (by simp;omega) ⟨[0,1,2,3,4,5],by simp⟩
       · rw[visO_new hs] at hf i1
         simp[decide_eq_true hlt,hx1,AOp_callv,callV_fn]
         refine callT_step (vis_new1 (t:=t5) g1 g3 (by omega) hs (by omega)) [] [2,3,1,5] (by simp) ?_
         simp[w3]
         exact round_of hI2 hS2 hμ2 (i+1,_,_) ⟨by omega,i1,hf.symm⟩ (by simp;omega) ⟨[0,1,2,3,4,6],by simp⟩
     · obtain rfl:i=ins.length:=by omega
       rw[List.take_of_length_le (by simp)] at hst
       rw[←hst] at q1 q2 q3 q4 s3'
       simp[decide_eq_false hlt,hlt]
       exact round_of hI hS hμ (s5,t5) ⟨q1,q2,s3'⟩ (by simpa using q4) ⟨[0,1,2,3,5],by simp⟩
   rw[if_neg hQ1] at hkO
   subst hkO
   refine call_step (isAnd_con x v ⟨n1,n2⟩ n3 n4) ?_
   simp[enGr,hF1]
   refine call_step (firstSeq_con x ⟨n1,n2⟩) ?_
   simp[show ¬ 1+x.1≤(v:Int) by omega]
   exact round_of hI hS hμ (s,t) ⟨q1,q2,s3'⟩ (by simp) ⟨[0,1,2,3,5],by simp⟩
end Go.Proofs.Ytnjedabjbeipeaa
