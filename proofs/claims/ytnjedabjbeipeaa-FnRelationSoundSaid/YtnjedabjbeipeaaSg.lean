/-
  Pruning and forward retiming by the reference, by abstract walks.
  Conditions: those typed in each theorem.
-/
import Derived.Test.YtnjedabjbeipeaaKc
import Derived.Test.YtnjedabjbeipeaaUg
import Derived.Test.YtnjedabjbeipeaaSf
namespace Go.Proofs.Ytnjedabjbeipeaa
open Go.RowKit Go.ChangeShapes Go.WideShapes
set_option linter.unusedVariables false
set_option linter.unusedSimpArgs false
attribute [local simp ↓] condG_true condG_false condB_true condB_false
attribute [local simp] AWp_skip AWp_region_t AWp_region_d AWp_region_f still_mk AWp_seq AWp_cond condV_bool condB AWp_block AWp_exit AWp_ret
attribute [local simp] AOps_nil AOp_move AOp_assign AOp_pick AOp_binOp AOp_unOp AOp_convert AOp_len AOp_max AOp_min AOp_indexAddr AOp_load
attribute [local simp] AOp_fieldAddr AOp_field AOp_extract AOp_nilCheck AOp_build AOp_alloc AOp_box AOp_call AOp_store AOp_append AOp_buildSlice nextB_some
attribute [local simp] nextB_none adoptO adoptC AOp_makeSlice AOp_slice AOp_makeFunc AOp_guard guardD_some guardG_bool guardG_undef nextO_some nextS_some
attribute [local simp] nextZ_some nextL_some nextM_some nextT_some sliceO sliceL sliceT partO partV boundV funcO pickO
attribute [local simp] convO lenO maxO minO idxO extO nilO buildO litO litC makeO chunks
attribute [local simp] fillV placeOf thenA inBlockA St.get St.put St.eval ofCell evalT abin_add abin_sub abin_mul
attribute [local simp] abin_quo abin_rem abin_and abin_or abin_xor abin_andNot abin_shl abin_shr abin_shlu abin_eql abin_eqp abin_neq
attribute [local simp] abin_lss abin_leq abin_gtr abin_geq abin_eqlb abin_neqb aun pickV lenV intOf? indexV takeD
attribute [local simp] takeV loadV fieldAddrV fieldV ofX presD presDs pres presAll cellsV V.cell storeV
attribute [local simp] freezeC putAt kill takeC plains plainV scalarV nat_neg keepT sets eSl e1
attribute [local simp] e2 e3 e4 eInt eBool abinS_d abinS_agg abinS nilEq abin_eqb AOp_makeMap AOp_lookup
attribute [local simp] AOp_mapUpdate lookG_some updG_some mapV kyOf vlOf lookV vlV buildA afterCall inst inst1
attribute [local simp] inst1s instD instDs RetA resVs resV gives give1 give1s Le isPin leSlots
attribute [local simp] leS leTmps leV le0 le0s ren ren0 renS ren0s frame enterT afterT_some
attribute [local simp] afterC_some lives Slot.live arrsOk viewV view0 renT rens renSs setAll List.range'_succ RetT
attribute [local simp] RetW joinV leT AOpsE_nil AOpsE_cons AOpsT_nil AOpsT_cons isCallT isFnO callOf callVC_fn condC_true
attribute [local simp] condC_false beginT_mk beginX_mk AOpsX_zero thenT_mk pickE pickT isT loose namesOf namesV names1
attribute [local simp] names0 stableN sameAt Op.operands Call.operands
def toJ (x:GrD) (m:List Bool) (k:Nat):List Int:=(List.range k).map fun v=>2*(ctP x m v:Int)
section
variable {x:GrD} {m:List Bool}
theorem toJ_succ {k:Nat}:toJ x m (k+1)=toJ x m k++[2*(ctP x m k:Int)]:=by simp[toJ,List.range_succ]
theorem toJ_len {k:Nat}:(toJ x m k).length=k:=by simp[toJ]
theorem toJ_at {v n:Nat} (h:v<n):atI (toJ x m n) (v:Int)=2*(ctP x m v:Int):=by
 unfold atI toJ
 rw[Int.toNat_natCast,List.getElem?_map,List.getElem?_range h]
 rfl
theorem plMapV_congr {p q:List Int} {l:Int} (h:atI p (l / 2)=atI q (l / 2)):plMapV p l=plMapV q l:=by unfold plMapV;rw[h]
theorem to_map {l:Int} (h:0≤l∧litN l<grN x∧kpB x m (litN l)=true):plMapV (toJ x m (grN x)) l=plMapV (plP x m) l:=by
 refine plMapV_congr ?_
 rw[plP_lit h.1 h.2.1 h.2.2,show l / 2=((litN l:Nat):Int) by unfold litN;omega,toJ_at h.2.1]
theorem to_maps {ls:List Int} (h:∀ l∈ls,0≤l∧litN l<grN x∧kpB x m (litN l)=true):ls.map (plMapV (toJ x m (grN x)))=ls.map (plMapV (plP x m)):=List.map_congr_left fun l hl=>to_map (h l hl)
end
set_option maxRecDepth 100000 in
set_option maxHeartbeats 8000000 in
theorem sPrune_conT (x:GrD) (hx:fitGr 1048576 x) (hok:netOkB x=true):ConT Try.prog 92 [vgr x] [] (vgr (pruneG x)) []:=by
 obtain⟨⟨n1,n2,n3,n4,n5,n6⟩,o1,o2,o3⟩:=netOk_of hok
 have hg:=okGr_netOk hok
 obtain⟨hF,hgl,hNi,hno⟩:=ok_sizes hok
 have hN:=grN_eq x
 have hQ:(firstQ x:Int)=1+x.1:=by unfold firstQ;omega
 have hFQ:firstG x=firstQ x+x.2.1.length:=rfl
 have k1:=sNetOk_con x hx hg
 rw[hok] at k1
 have k2:=l15Marks_con x hx hok
 have k3:=sNodeCount_con x
 rw[show nodesG x=((grN x:Nat):Int) by omega] at k3
 have k4:=sFirst_con x ⟨n1,n2⟩ n3
 have hml:(obsB x).length=grN x:=obsB_len
 have hPG:pruneG x=(x.1,sqK x (obsB x) (plP x (obsB x)) x.2.1.length,anP x (obsB x) (plP x (obsB x)) x.2.2.1.length,x.2.2.2.map (plMapV (plP x (obsB x)))):=rfl
 have hseq:=fun i h1 h2 l hl=>seq_kids hok (i:=i) h1 h2 (l:=l) hl
 have hand:=fun i h1 h2 l hl=>and_kids hok (i:=i) h1 h2 l hl
 have hout:=fun l hl=>out_kids hok (l:=l) hl
 rw[hPG]
 generalize obsB x=m at *
 refine conT_ofD (by kernel_rfl) Try.func92 rfl rfl rfl (by simp[laters,Later]) (by simp[lives,Slot.live]) ?_
 simp[enGr]
 refine call_step (k1) ?_
 simp[enGr]
 refine call_step (k2) ?_
 simp[enGr]
 refine aw_loopN [false,true,true,true,true,true,true,true,false,false,false,false,false,false,false,false,false,false,false,false,false,false,false,false,false,false,false,false,false,false,false,false,false,false,false,false,false,false,false,false,false,false,false,false,false,false,false,false,false,false,false,false,false,false,false,false,false,false,false,false,false,false,false,false,false,false,false,false,false,false,false,false,false,false,false,false,false,false,false,false,false,false,false,false,false,false,false,false,false,false,false,false,false,false,false,false,false,false,false,false,false,false,false,false,false,false,false,false,false,false,false,false,false,false,false,false,false,false,false,false,false,false,false,false,false,false,false,false,false,false,false,false] (fun k:Nat=>k≤grN x) (fun k:Nat=>[(5,.ref 4),(6,.d (.int .i64 (ctP x m k))),(7,.d (.int .i64 k))]) (fun k:Nat=>fun _=>[.var 28 [.d (.int .i64 x.1),.d (eSl 31 enSeq x.2.1),.d (eSl 60 enAnd x.2.2.1),.d (eSl 3 (e1 eInt) x.2.2.2)],zG,.arr 4 true (m.map (e1 eBool)),.var 28 [.d (.int .i64 x.1),.nil 31,.nil 60,.nil 3],.arr 3 true ((toJ x m k).map (e1 eInt))]) (fun k:Nat=>grN x - k) 0 ?_ ?_ ?_
 · exact Nat.zero_le _
 · exact⟨[0,1,2,3,4],by simp[zG,toJ,ctP]⟩
 rintro I S μ hI hS hμ k hk
 have hcle:=ctP_le (x:=x) (m:=m) k
 have htl:=toJ_len (x:=x) (m:=m) (k:=k)
 by_cases hlt:k<grN x
 · have hts:=toJ_succ (x:=x) (m:=m) (k:=k)
   have hcs:ctP x m (k+1)=if kpB x m k=true then ctP x m k+1 else ctP x m k:=rfl
   have hkb:kpB x m k=(decide (k<firstQ x)||getB m k):=rfl
   have hat:=getB_at (s:=m) (v:=k) (by omega)
   have w1:IntKind.i64.wrap (2*(ctP x m k:Int))=2*(ctP x m k:Int):=wrap_id (by omega) (by omega)
   have w2:IntKind.i64.wrap ((k:Int)+1)=(k:Int)+1:=wrap_id (by omega) (by omega)
   have w3:IntKind.i64.wrap ((ctP x m k:Int)+1)=(ctP x m k:Int)+1:=wrap_id (by omega) (by omega)
   obtain⟨t2,ht2⟩:∃ t2,toJ x m (k+1)=t2:=⟨_,rfl⟩
   obtain⟨q2,hq2⟩:∃ q2,ctP x m (k+1)=q2:=⟨_,rfl⟩
   rw[ht2] at hts
   rw[hq2] at hcs
   generalize toJ x m k=t1 at *
   generalize ctP x m k=q1 at *
   generalize getB m k=gb at *
   by_cases hlo:k<firstQ x
   · rw[hkb,decide_eq_true hlo,Bool.true_or,if_pos rfl] at hcs
     simp
     refine call_step (k3) ?_
     simp[enGr,hlt]
     refine app_data vt_el_26 rfl (by simp) rfl (by simp) (by simp) (by first | (simp;done)|(simp;omega)) (by simp[flatP,flatD]) ?_
     simp[show (k:Int)≤x.1 by omega,w1,w2,w3]
     exact round_of hI hS hμ (k+1) (by omega) (by omega) ⟨[0,1,2,3,6],by simp[ht2,hq2,hcs,hts]⟩
   · rw[hkb,decide_eq_false hlo,Bool.false_or] at hcs
     have hle:(decide ((k:Int)≤x.1))=false:=decide_eq_false (by omega)
     have hle2:¬ (k:Int)≤x.1:=by omega
     have hle3:x.1<(k:Int):=by omega
     cases gb with
     | true =>
       rw[if_pos rfl] at hcs
       simp
       refine call_step (k3) ?_
       simp[enGr,hlt]
       refine app_data vt_el_26 rfl (by simp) rfl (by simp) (by simp) (by first | (simp;done)|(simp;omega)) (by simp[flatP,flatD]) ?_
       simp[hle,hle2,hle3,hat,w1,w2,w3]
       exact round_of hI hS hμ (k+1) (by omega) (by omega) ⟨[0,1,2,3,6],by simp[ht2,hq2,hcs,hts]⟩
     | false =>
       rw[if_neg (by simp)] at hcs
       simp
       refine call_step (k3) ?_
       simp[enGr,hlt]
       refine app_data vt_el_26 rfl (by simp) rfl (by simp) (by simp) (by first | (simp;done)|(simp;omega)) (by simp[flatP,flatD]) ?_
       simp[hle,hle2,hle3,hat,w1,w2,w3]
       exact round_of hI hS hμ (k+1) (by omega) (by omega) ⟨[0,1,2,3,6],by simp[ht2,hq2,hcs,hts]⟩
 obtain rfl:k=grN x:=by omega
 clear hI hS hμ
 have htm:=fun l h=>to_map (x:=x) (m:=m) (l:=l) h
 have htms:=fun ls h=>to_maps (x:=x) (m:=m) (ls:=ls) h
 generalize toJ x m (grN x)=T at *
 simp
 refine call_step (k3) ?_
 simp[enGr,hlt]
 refine aw_loopN [false,true,true,true,true,true,false,false,true,false,false,false,false,false,false,false,false,false,false,false,false,false,false,false,false,false,false,false,false,false,false,false,false,false,false,false,false,false,false,false,false,false,false,false,false,false,false,false,false,false,false,false,false,false,false,false,false,false,false,false,false,false,false,false,false,false,false,false,false,false,false,false,false,false,false,false,false,false,false,false,false,false,false,false,false,false,false,false,false,false,false,false,false,false,false,false,false,false,false,false,false,false,false,false,false,false,false,false,false,false,false,false,false,false,false,false,false,false,false,false,false,false,false,false,false,false,false,false,false,false,false,false] (fun i:Nat=>i≤x.2.1.length) (fun i:Nat=>[(8,.d (.int .i64 i))]) (fun i:Nat=>fun _=>[.var 28 [.d (.int .i64 x.1),.d (eSl 31 enSeq x.2.1),.d (eSl 60 enAnd x.2.2.1),.d (eSl 3 (e1 eInt) x.2.2.2)],zG,.arr 4 true (m.map (e1 eBool)),.var 28 [.d (.int .i64 x.1),nC 31 (sqK x m (plP x m) i).length 5,.nil 60,.nil 3],.arr 3 true (T.map (e1 eInt))]++nS 31 (sqK x m (plP x m) i).length ((sqK x m (plP x m) i).map enSeq)) (fun i:Nat=>x.2.1.length - i) 0 ?_ ?_ ?_
 · exact Nat.zero_le _
 · exact⟨[0,1,2,3,4],by simp[zG,nC,nS,sqK]⟩
 rintro I S μ hI hS hμ i hi
 have hsl2:=sqK_len (x:=x) (m:=m) (pl:=plP x m) i
 by_cases hli:i<x.2.1.length
 · obtain⟨e1',e2'⟩:=seqAt_mem hli
   have hst:=sqK_succ (x:=x) (m:=m) (pl:=plP x m) (i:=i)
   have hat:=getB_at (s:=m) (v:=firstQ x+i) (by omega)
   have w1:IntKind.i64.wrap (1+x.1)=1+x.1:=wrap_id (by omega) (by omega)
   have w2:IntKind.i64.wrap (1+x.1+(i:Int))=((firstQ x+i:Nat):Int):=by rw[wrap_id (by omega) (by omega)];omega
   have w3:IntKind.i64.wrap ((i:Int)+1)=(i:Int)+1:=wrap_id (by omega) (by omega)
   have hLs:(enSeq (seqAt x i)).length=3:=rfl
   have hsq:=hseq i hli
   have hf2:=hx.2.1 _ e2'
   obtain⟨s2,hs2⟩:∃ s2,sqK x m (plP x m) (i+1)=s2:=⟨_,rfl⟩
   rw[hs2] at hst
   generalize sqK x m (plP x m) i=s1 at *
   have hvN:firstQ x+i<m.length:=by omega
   generalize firstQ x+i=v at *
   generalize seqAt x i=sq at *
   cases hb:getB m v with
   | false =>
     rw[hb,if_neg (by simp)] at hst
     rw[hb] at hat
     by_cases h0:s1.length=0
     · have hnC:nC 31 s1.length 5=.nil 31:=if_pos h0
       have hnS:∀ es,nS 31 s1.length es=[]:=fun es=>if_pos h0
       simp[decide_eq_true hli,w1,w2,hat,hnC,hnS,w3]
       exact round_of hI hS hμ (i+1) (by omega) (by omega) ⟨[0,1,2,3,4],by simp[hs2,hst,hnC,hnS]⟩
     · have hnC:nC 31 s1.length 5=.ref 5:=if_neg h0
       have hnS:∀ es,nS 31 s1.length es=[.arr 31 true es]:=fun es=>if_neg h0
       simp[decide_eq_true hli,w1,w2,hat,hnC,hnS,w3]
       exact round_of hI hS hμ (i+1) (by omega) (by omega) ⟨[0,1,2,3,4,5],by simp[hs2,hst,hnC,hnS]⟩
   | true =>
     rw[hb,if_pos rfl] at hst
     rw[hb] at hat
     have hkk:=hsq hb
     have kM:=l10Map_con T sq.2.2 (by omega) (by omega) (fun l hl=>by obtain⟨a,b,c⟩:=hkk l hl;rw[htl];exact⟨a,by unfold litN at b;omega⟩)
     rw[htms _ hkk] at kM
     have hs2m:s2.map enSeq=s1.map enSeq++[[.int .i64 sq.1,.int .i64 sq.2.1,.sl 3 ((sq.2.2.map (plMapV (plP x m))).map (e1 eInt))]]:=by rw[hst,List.map_append];rfl
     have hs2l:¬ s2.length=0:=by rw[hst];simp
     have hnC2:nC 31 s2.length 5=.ref 5:=if_neg hs2l
     have hnS2:∀ es,nS 31 s2.length es=[.arr 31 true es]:=fun es=>if_neg hs2l
     generalize sq.2.2.map (plMapV (plP x m))=ms at *
     by_cases h0:s1.length=0
     · have hnC:nC 31 s1.length 5=.nil 31:=if_pos h0
       have hnS:∀ es,nS 31 s1.length es=[]:=fun es=>if_pos h0
       have h00:s1=[]:=List.eq_nil_of_length_eq_zero h0
       rw[h00] at hs2m
       simp[decide_eq_true hli,w1,w2,hat,hnC,hnS]
       refine drawD_of 24 (by kernel_rfl) ?_
       simp[e1',hLs,enSeq]
       refine call_step (kM) ?_
       simp
       first | refine app_lit (q:=1) vt_el_24 (by exact rfl) (by simp) (by exact rfl) (by exact rfl) (by simp) (by simp) (by first | (simp;done)|(simp;omega)) ?_|refine app_row vt_el_24 (by exact rfl) (by simp) (by exact rfl) (by simp) (by first | (simp;done)|(simp;omega)) ?_
       simp[w3]
       exact round_of hI hS hμ (i+1) (by omega) (by omega) ⟨[0,1,2,3,4,7],by simp[hs2,hs2m,hnC2,hnS2]⟩
     · have hnC:nC 31 s1.length 5=.ref 5:=if_neg h0
       have hnS:∀ es,nS 31 s1.length es=[.arr 31 true es]:=fun es=>if_neg h0
       simp[decide_eq_true hli,w1,w2,hat,hnC,hnS]
       refine drawD_of 24 (by kernel_rfl) ?_
       simp[e1',hLs,enSeq]
       refine call_step (kM) ?_
       simp
       first | refine app_lit (q:=1) vt_el_24 (by exact rfl) (by simp) (by exact rfl) (by exact rfl) (by simp) (by simp) (by first | (simp;done)|(simp;omega)) ?_|refine app_row vt_el_24 (by exact rfl) (by simp) (by exact rfl) (by simp) (by first | (simp;done)|(simp;omega)) ?_
       simp[w3]
       exact round_of hI hS hμ (i+1) (by omega) (by omega) ⟨[0,1,2,3,4,8],by simp[hs2,hs2m,hnC2,hnS2]⟩
 obtain rfl:i=x.2.1.length:=by omega
 clear hI hS hμ
 generalize sqK x m (plP x m) x.2.1.length=qs at *
 have hnn:(nC 31 qs.length 5=.nil 31∧nS 31 qs.length (qs.map enSeq)=[]∧qs=[])∨(nC 31 qs.length 5=.ref 5∧nS 31 qs.length (qs.map enSeq)=[.arr 31 true (qs.map enSeq)]∧qs≠[]):=by
  by_cases h0:qs.length=0
  · exact .inl ⟨if_pos h0,if_pos h0,List.eq_nil_of_length_eq_zero h0⟩
  · exact .inr ⟨if_neg h0,if_neg h0,fun e=>h0 (by rw[e];rfl)⟩
 rcases hnn with ⟨hnC,hnS,hq0⟩|⟨hnC,hnS,hq0⟩
 all_goals
  rw[hnC,hnS]
  clear hnC hnS
  simp[hli,decide_eq_false hli]
  refine aw_loopN [false,true,true,true,true,true,false,false,false,true,false,false,false,false,false,false,false,false,false,false,false,false,false,false,false,false,false,false,false,false,false,false,false,false,false,false,false,false,false,false,false,false,false,false,false,false,false,false,false,false,false,false,false,false,false,false,false,false,false,false,false,false,false,false,false,false,false,false,false,false,false,false,false,false,false,false,false,false,false,false,false,false,false,false,false,false,false,false,false,false,false,false,false,false,false,false,false,false,false,false,false,false,false,false,false,false,false,false,false,false,false,false,false,false,false,false,false,false,false,false,false,false,false,false,false,false,false,false,false,false,false,false] (fun i:Nat=>i≤x.2.2.1.length) (fun i:Nat=>[(9,.d (.int .i64 i))]) (fun i:Nat=>fun _=>[.var 28 [.d (.int .i64 x.1),.d (eSl 31 enSeq x.2.1),.d (eSl 60 enAnd x.2.2.1),.d (eSl 3 (e1 eInt) x.2.2.2)],zG,.arr 4 true (m.map (e1 eBool)),.var 28 [.d (.int .i64 x.1),.d (eSl 31 enSeq qs),nC 60 (anP x m (plP x m) i).length 5,.nil 3],.arr 3 true (T.map (e1 eInt))]++nS 60 (anP x m (plP x m) i).length ((anP x m (plP x m) i).map enAnd)) (fun i:Nat=>x.2.2.1.length - i) 0 ?_ ?_ ?_
  · exact Nat.zero_le _
  · refine⟨[0,1,2,3,4],?_⟩
    first | (simp[zG,nC,nS,anP];done)|(simp[zG,nC,nS,anP];exact hq0)
  rintro I S μ hI hS hμ i hi
  have hal:=anP_len (x:=x) (m:=m) (pl:=plP x m) i
  by_cases hli2:i<x.2.2.1.length
  · obtain⟨ha,a1,a2,a3,a4,a5,a6⟩:=and_at hok (v:=firstG x+i) (by omega) (by omega)
    rw[Nat.add_sub_cancel_left] at ha
    have hst:=anP_succ (x:=x) (m:=m) (pl:=plP x m) (i:=i)
    have hat:=getB_at (s:=m) (v:=firstG x+i) (by omega)
    have w2:IntKind.i64.wrap (1+x.1+(x.2.1.length:Int)+(i:Int))=((firstG x+i:Nat):Int):=by rw[wrap_id (by omega) (by omega)];omega
    have w3:IntKind.i64.wrap ((i:Int)+1)=(i:Int)+1:=wrap_id (by omega) (by omega)
    have hLa:(enAnd (andAt x (firstG x+i))).length=2:=rfl
    have hkd:=fun h l hl=>hand i hli2 h l hl
    obtain⟨s2,hs2⟩:∃ s2,anP x m (plP x m) (i+1)=s2:=⟨_,rfl⟩
    rw[hs2] at hst
    generalize anP x m (plP x m) i=s1 at *
    have hvN:firstG x+i<m.length:=by omega
    generalize hvv:firstG x+i=v at *
    generalize andAt x v=an at *
    cases hb:getB m v with
    | false =>
      rw[hb,if_neg (by simp)] at hst
      rw[hb] at hat
      by_cases h0:s1.length=0
      · have hnC:nC 60 s1.length 5=.nil 60:=if_pos h0
        have hnS:∀ es,nS 60 s1.length es=[]:=fun es=>if_pos h0
        simp[decide_eq_true hli2,hnC,hnS]
        refine call_step (k4) ?_
        simp[enGr,w2,hat,w3]
        exact round_of hI hS hμ (i+1) (by omega) (by omega) ⟨[0,1,2,3,4],by simp[hs2,hst,hnC,hnS]⟩
      · have hnC:nC 60 s1.length 5=.ref 5:=if_neg h0
        have hnS:∀ es,nS 60 s1.length es=[.arr 60 true es]:=fun es=>if_neg h0
        simp[decide_eq_true hli2,hnC,hnS]
        refine call_step (k4) ?_
        simp[enGr,w2,hat,w3]
        exact round_of hI hS hμ (i+1) (by omega) (by omega) ⟨[0,1,2,3,4,5],by simp[hs2,hst,hnC,hnS]⟩
    | true =>
      rw[hb,if_pos rfl] at hst
      rw[hb] at hat
      have b1:=hkd hb an.1 (.inl rfl)
      have b2:=hkd hb an.2 (.inr rfl)
      have c1:litN an.1<grN x:=by omega
      have c2:litN an.2<grN x:=by omega
      have kM:=l10Map_con T [an.1,an.2] (by omega) (by simp) (fun l hl=>by
       rw[htl]
       rcases List.mem_cons.1 hl with rfl|hl
       · exact⟨b1.1,by unfold litN at c1;omega⟩
       · rw[List.mem_singleton.1 hl];exact⟨b2.1,by unfold litN at c2;omega⟩)
      have kM':ConC Try.prog 133 [ints T,.d (.sl 3 [[.int .i64 an.1],[.int .i64 an.2]])] (.d (.sl 3 [[.int .i64 (plMapV (plP x m) an.1)],[.int .i64 (plMapV (plP x m) an.2)]])):=by
       rw[←htm _ ⟨b1.1,c1,b1.2.2⟩,←htm _ ⟨b2.1,c2,b2.2.2⟩]
       exact kM
      clear kM
      have hs2m:s2.map enAnd=s1.map enAnd++[[.int .i64 (plMapV (plP x m) an.1),.int .i64 (plMapV (plP x m) an.2)]]:=by rw[hst,List.map_append];rfl
      have hs2l:¬ s2.length=0:=by rw[hst];simp
      have hnC2:nC 60 s2.length 5=.ref 5:=if_neg hs2l
      have hnS2:∀ es,nS 60 s2.length es=[.arr 60 true es]:=fun es=>if_neg hs2l
      generalize plMapV (plP x m) an.1=y1 at *
      generalize plMapV (plP x m) an.2=y2 at *
      by_cases h0:s1.length=0
      · have hnC:nC 60 s1.length 5=.nil 60:=if_pos h0
        have hnS:∀ es,nS 60 s1.length es=[]:=fun es=>if_pos h0
        have h00:s1=[]:=List.eq_nil_of_length_eq_zero h0
        rw[h00] at hs2m
        simp[decide_eq_true hli2,hnC,hnS]
        refine call_step (k4) ?_
        simp[enGr,w2,hat]
        refine drawD_of 16 (by kernel_rfl) ?_
        simp[ha,hLa,enAnd]
        refine call_step (kM') ?_
        simp
        refine drawD_of 10 (by kernel_rfl) ?_
        simp
        refine app_data vt_el_25 rfl (by simp) rfl (by simp) (by simp) (by first | (simp;done)|(simp;omega)) (by simp[flatP,flatD]) ?_
        simp[w3]
        exact round_of hI hS hμ (i+1) (by omega) (by omega) ⟨[0,1,2,3,4,8],by simp[hs2,hs2m,hnC2,hnS2]⟩
      · have hnC:nC 60 s1.length 5=.ref 5:=if_neg h0
        have hnS:∀ es,nS 60 s1.length es=[.arr 60 true es]:=fun es=>if_neg h0
        simp[decide_eq_true hli2,hnC,hnS]
        refine call_step (k4) ?_
        simp[enGr,w2,hat]
        refine drawD_of 16 (by kernel_rfl) ?_
        simp[ha,hLa,enAnd]
        refine call_step (kM') ?_
        simp
        refine drawD_of 10 (by kernel_rfl) ?_
        simp
        refine app_data vt_el_25 rfl (by simp) rfl (by simp) (by simp) (by first | (simp;done)|(simp;omega)) (by simp[flatP,flatD]) ?_
        simp[w3]
        exact round_of hI hS hμ (i+1) (by omega) (by omega) ⟨[0,1,2,3,4,9],by simp[hs2,hs2m,hnC2,hnS2]⟩
  obtain rfl:i=x.2.2.1.length:=by omega
  clear hI hS hμ
  have kM:=l10Map_con T x.2.2.2 (by omega) (by omega) (fun l hl=>by obtain⟨a,b,c⟩:=hout l hl;rw[htl];exact⟨a,by unfold litN at b;omega⟩)
  rw[htms _ hout] at kM
  generalize x.2.2.2.map (plMapV (plP x m))=oo at *
  generalize anP x m (plP x m) x.2.2.1.length=ns at *
  by_cases h0:ns.length=0
  · have hnC:nC 60 ns.length 5=.nil 60:=if_pos h0
    have hnS:∀ es,nS 60 ns.length es=[]:=fun es=>if_pos h0
    have h00:ns=[]:=List.eq_nil_of_length_eq_zero h0
    simp[decide_eq_false hli2,hli2,hnC,hnS]
    refine call_step (kM) ?_
    simp
    exact⟨[],by simp[h00]⟩
  · have hnC:nC 60 ns.length 5=.ref 5:=if_neg h0
    have hnS:∀ es,nS 60 ns.length es=[.arr 60 true es]:=fun es=>if_neg h0
    simp[decide_eq_false hli2,hli2,hnC,hnS]
    refine call_step (kM) ?_
    simp
    exact⟨[],by simp⟩
end Go.Proofs.Ytnjedabjbeipeaa
