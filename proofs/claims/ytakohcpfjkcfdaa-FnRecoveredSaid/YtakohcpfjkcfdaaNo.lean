/-
  Cones, cuts and mappings of a graph: the reference, by abstract walks.
  Conditions: those typed in each theorem.
-/
import Derived.Test.YtakohcpfjkcfdaaNk
namespace Go.Proofs.Ytakohcpfjkcfdaa
open Go.RowKit Go.ChangeShapes Go.WideShapes
set_option linter.unusedVariables false
set_option linter.unusedSimpArgs false
attribute [local simp ↓] condG_true condG_false condB_true condB_false
attribute [local simp] AWp_skip AWp_region_t AWp_region_d AWp_region_f still_mk AWp_seq AWp_cond condV_bool condB AWp_block AWp_exit AWp_ret
attribute [local simp] AOps_nil AOp_move AOp_assign AOp_pick AOp_binOp AOp_unOp AOp_convert AOp_len AOp_max AOp_min AOp_indexAddr AOp_load
attribute [local simp] AOp_fieldAddr AOp_field AOp_extract AOp_nilCheck AOp_build AOp_alloc AOp_box AOp_call AOp_store AOp_append AOp_buildSlice nextB_some
attribute [local simp] nextB_none adoptO adoptC AOp_makeSlice AOp_slice AOp_makeFunc AOp_guard guardD_some guardG_bool guardG_undef nextO_some nextS_some
attribute [local simp] nextZ_some nextL_some nextM_some nextT_some sliceO sliceL sliceT partO partV boundV funcO pickO
attribute [local simp] convO lenO maxO minO idxO extO nilO buildO litO litC makeO chunks
attribute [local simp] fillV placeOf thenA inBlockA St.get St.put St.eval ofCell evalT abin_add abin_sub abin_mul
attribute [local simp] abin_quo abin_rem abin_and abin_or abin_xor abin_andNot abin_shl abin_shr abin_shlu abin_eql abin_eqp abin_neq
attribute [local simp] abin_lss abin_leq abin_gtr abin_geq abin_eqlb abin_neqb aun pickV lenV intOf? indexV takeD
attribute [local simp] takeV loadV fieldAddrV fieldV ofX presD presDs pres presAll cellsV V.cell storeV
attribute [local simp] freezeC putAt kill takeC plains plainV scalarV nat_neg keepT sets eSl e1
attribute [local simp] e2 e3 e4 eInt eBool abinS_d abinS_agg abinS nilEq abin_eqb AOp_makeMap AOp_lookup
attribute [local simp] AOp_mapUpdate lookG_some updG_some mapV kyOf vlOf lookV vlV buildA afterCall inst inst1
attribute [local simp] inst1s instD instDs RetA resVs resV gives give1 give1s Le isPin leSlots
attribute [local simp] leS leTmps leV le0 le0s ren ren0 renS ren0s frame enterT afterT_some
attribute [local simp] afterC_some lives Slot.live arrsOk viewV view0 renT rens renSs setAll List.range'_succ RetT
attribute [local simp] RetW joinV leT AOpsE_nil AOpsE_cons AOpsT_nil AOpsT_cons isCallT isFnO callOf callVC_fn condC_true
attribute [local simp] condC_false beginT_mk thenT_mk pickE pickT isT loose namesOf namesV names1 names0 stableN
attribute [local simp] sameAt Op.operands Call.operands
attribute [local simp] mcone_len esc_len
theorem flatP_bools {xs:List Bool}:flatP (xs.map (e1 eBool)):=by
 intro c hc d hd
 obtain⟨x,_,rfl⟩:=List.mem_map.1 hc
 simp at hd
 subst hd
 rfl
theorem rep_at {n v:Nat} (h:v<n):(List.replicate n [D.bool false])[v]? = some [.bool false]:=by rw[List.getElem?_replicate,if_pos h]
def swK (x:GrD) (m0:List Bool):Nat→List Bool
 | 0=>m0
 | j+1=>if getB (swK x m0 j) (grN x - 1 - j)=true then ((swK x m0 j).set (kidA x (grN x - 1 - j)) true).set (kidB x (grN x - 1 - j)) true else swK x m0 j
def sweepG (x:GrD) (m0:List Bool):List Bool:=swK x m0 x.2.2.1.length
theorem swK_len {x:GrD} {m0:List Bool}:∀ j,(swK x m0 j).length=m0.length
 | 0=>rfl
 | j+1=>by unfold swK;split<;>simp[swK_len j]
theorem swK_inv {x:GrD} {m0:List Bool} (hok:netOkB x=true) (hl:m0.length=grN x):∀ j,j≤x.2.2.1.length →
 (∀ u,getB m0 u=true→getB (swK x m0 j) u=true)∧(∀ u,getB (swK x m0 j) u=true→∃ r,getB m0 r=true∧Rch (firstG x) (kidA x) (kidB x) r u) ∧
 ∀ u,grN x - j≤u→u<grN x→getB (swK x m0 j) u=true→firstG x≤u→getB (swK x m0 j) (kidA x u)=true∧getB (swK x m0 j) (kidB x u)=true
 | 0,_=>⟨fun u h=>h,fun u h=>⟨u,h,.refl u⟩,fun u h1 h2=>by omega⟩
 | j+1,hj=>by
   obtain⟨h1,h2,h3⟩:=swK_inv hok hl j (by omega)
   have hlj:=swK_len (x:=x) (m0:=m0) j
   have hN:=grN_eq x
   unfold swK
   generalize hv:grN x - 1 - j=v at *
   by_cases hb:getB (swK x m0 j) v=true
   · rw[if_pos hb]
     obtain⟨k1,k2⟩:=kids_lt hok v (by omega) (by omega)
     have hg:∀ u,(getB (((swK x m0 j).set (kidA x v) true).set (kidB x v) true) u=true↔u=kidB x v∨u=kidA x v∨getB (swK x m0 j) u=true):=fun u=>by
      rw[getB_set (by simp;omega),getB_set (by omega)];simp
     refine⟨fun u h=>(hg u).2 (.inr (.inr (h1 u h))),fun u h=>?_,fun u q1 q2 q3 q4=>?_⟩
     · rcases (hg u).1 h with rfl|rfl|h
       · obtain⟨r,hr,hru⟩:=h2 v hb
         exact⟨r,hr,hru.snoc_b (by omega)⟩
       · obtain⟨r,hr,hru⟩:=h2 v hb
         exact⟨r,hr,hru.snoc_a (by omega)⟩
       · exact h2 u h
     · by_cases huv:u=v
       · subst huv
         exact⟨(hg _).2 (.inr (.inl rfl)),(hg _).2 (.inl rfl)⟩
       · rcases (hg u).1 q3 with e|e|h
         · omega
         · omega
         · obtain⟨r1,r2⟩:=h3 u (by omega) q2 h q4
           exact⟨(hg _).2 (.inr (.inr r1)),(hg _).2 (.inr (.inr r2))⟩
   · rw[if_neg hb]
     refine⟨h1,h2,fun u q1 q2 q3 q4=>?_⟩
     by_cases huv:u=v
     · subst huv;exact absurd q3 hb
     · exact h3 u (by omega) q2 q3 q4
theorem sweep_iff {x:GrD} {m0:List Bool} (hok:netOkB x=true) (hl:m0.length=grN x):∀ u,(getB (sweepG x m0) u=true↔∃ r,getB m0 r=true∧Rch (firstG x) (kidA x) (kidB x) r u):=by
 obtain⟨h1,h2,h3⟩:=swK_inv hok hl x.2.2.1.length (Nat.le_refl _)
 have hN:=grN_eq x
 refine sweep_done (N:=grN x) h2 h1 (by unfold sweepG;rw[swK_len,hl]) (kids_lt hok) fun u q1 q2 q3=>h3 u (by omega) q1 q2 q3
theorem cone_iff {x:GrD} (hok:netOkB x=true) {v:Nat} (hv:v<grN x):∀ u,(getB (coneL x v) u=true↔Rch (firstG x) (kidA x) (kidB x) v u):=fun u=>by
 obtain⟨_,h⟩:=mcone_spec (kids_lt hok) (v+1) v (List.replicate (grN x) false) (by omega) hv (by simp) (fun u _ h=>by rw[getB_rep] at h;cases h)
 have:=h u
 rw[getB_rep] at this
 show getB (mcone (firstG x) (kidA x) (kidB x) (v+1) v (List.replicate (grN x) false)) u=true↔_
 simpa using this
theorem cone_sweep {x:GrD} (hok:netOkB x=true) {v:Nat} (hv:v<grN x):sweepG x ((List.replicate (grN x) false).set v true)=coneL x v:=by
 refine getB_ext (by unfold sweepG;rw[swK_len,coneL_len];simp) fun u=>?_
 have h1:=sweep_iff (m0:=(List.replicate (grN x) false).set v true) hok (by simp) u
 have h2:=cone_iff hok hv u
 have h3:∀ r,(getB ((List.replicate (grN x) false).set v true) r=true↔r=v):=fun r=>by rw[getB_set (by simpa using hv),getB_rep];simp
 have h4:getB (sweepG x ((List.replicate (grN x) false).set v true)) u=true↔getB (coneL x v) u=true:=by
  rw[h1,h2]
  constructor
  · rintro⟨r,hr,hru⟩
    rw[(h3 r).1 hr] at hru
    exact hru
  · exact fun h=>⟨v,(h3 v).2 rfl,h⟩
 exact Bool.eq_iff_iff.2 h4
set_option maxRecDepth 100000 in
theorem sMark_con (x:GrD) (m0:List Bool) (hx:fitGr 1048576 x) (hok:netOkB x=true) (hl:m0.length=grN x):ConC Try.prog 85 [igr x,bools m0] (bools (sweepG x m0)):=by
 obtain⟨⟨n1,n2,n3,n4,n5,n6⟩,-,-,-⟩:=netOk_of hok
 obtain⟨hF,hgl,hNi,hno⟩:=ok_sizes hok
 have hN:=grN_eq x
 have w0:IntKind.i64.wrap ((x.2.2.1.length:Int) - 1)=(x.2.2.1.length:Int) - 1:=wrap_id (by omega) (by omega)
 refine con_of (by kernel_rfl) Try.func85 rfl rfl rfl ?_
 simp[enGr]
 refine app_data vt_el_72 rfl (by simp) rfl (by simp) (fun c hc=>by obtain⟨b,_,rfl⟩:=List.mem_map.1 hc;rfl) (by simp;omega) (fun _=>flatP_bools) ?_
 simp[w0]
 refine aw_loopU [false,false,true,false,false,true,true,false,false,false,false,false,false,false,false,false,false,false,false,false,false,false,false,false,false,false,false,false,false,false,false,false,false,false,false,false,false,false,false,false,false,false,false,false] (fun j:Nat=>j≤x.2.2.1.length) (fun j:Nat=>[(6,.d (.int .i64 ((x.2.2.1.length:Int) - 1 - j)))]) (fun j:Nat=>[(2,.arr 4 true ((swK x m0 j).map (e1 eBool)))]) (fun j:Nat=>x.2.2.1.length - j) 0 ?_ ?_ ?_
 · simp
 · exact⟨[0,1,2],by simp[swK]⟩
 rintro I S μ hI hS hμ j hj
 have hlj:=swK_len (x:=x) (m0:=m0) j
 obtain⟨i,hi⟩:∃ i:Int,i=(x.2.2.1.length:Int) - 1 - j:=⟨_,rfl⟩
 rw[←hi]
 by_cases hlt:j<x.2.2.1.length
 · have hsw:swK x m0 (j+1)=if getB (swK x m0 j) (grN x - 1 - j)=true then ((swK x m0 j).set (kidA x (grN x - 1 - j)) true).set (kidB x (grN x - 1 - j)) true else swK x m0 j:=rfl
   generalize swK x m0 j=s at *
   obtain⟨v,hv⟩:∃ v,v=grN x - 1 - j:=⟨_,rfl⟩
   rw[←hv] at hsw
   obtain⟨ha,a1,a2,a3,a4,a5,a6⟩:=and_at hok (v:=v) (by omega) (by omega)
   have hat:=getB_at (s:=s) (v:=v) (by omega)
   have w1:IntKind.i64.wrap (1+x.1+(x.2.1.length:Int)+i)=(v:Int):=by rw[wrap_id (by omega) (by omega)];omega
   have w2:IntKind.i64.wrap (i - 1)=(x.2.2.1.length:Int) - 1 - ((j:Int)+1):=by rw[wrap_id (by omega) (by omega)];omega
   have ht:i.toNat=v - firstG x:=by omega
   have hL:(enAnd (andAt x v)).length=2:=rfl
   have q1:IntKind.i64.wrap ((andAt x v).1.tdiv 2)=(kidA x v:Int):=by rw[Int.tdiv_eq_ediv_of_nonneg a1,a3];exact wrap_id (by omega) (by omega)
   have q2:IntKind.i64.wrap ((andAt x v).2.tdiv 2)=(kidB x v:Int):=by rw[Int.tdiv_eq_ediv_of_nonneg a2,a4];exact wrap_id (by omega) (by omega)
   simp[show (0:Int)≤i by omega]
   refine call_step (sFirst_con x ⟨n1,n2⟩ n3) ?_
   simp[w1,hat]
   rcases Bool.eq_false_or_eq_true (getB s v) with hb|hb
   · rw[hb,if_pos rfl] at hsw
     have hatA:=getB_at (s:=s) (v:=kidA x v) (by omega)
     have hsetA:=map_setB (s:=s) (v:=kidA x v) (b:=true)
     have hlA:(s.set (kidA x v) true).length=s.length:=by simp
     generalize s.set (kidA x v) true=sA at *
     have hatB:=getB_at (s:=sA) (v:=kidB x v) (by omega)
     have hsetB:=map_setB (s:=sA) (v:=kidB x v) (b:=true)
     generalize sA.set (kidB x v) true=sB at *
     simp[hb,hat,ha,ht,hL,enAnd,q1,q2,hatA,hsetA,hatB,hsetB,w2,show ¬ i<0 by omega]
     exact round_of hI hS hμ (j+1) (by omega) (by omega) ⟨[0,1,2],by simp[hsw]⟩
   · rw[hb,if_neg (by simp)] at hsw
     simp[hb,hat,w2]
     exact round_of hI hS hμ (j+1) (by omega) (by omega) ⟨[0,1,2],by simp[hsw]⟩
 · have hj':j=x.2.2.1.length:=by omega
   subst hj'
   have hsw:swK x m0 x.2.2.1.length=sweepG x m0:=rfl
   rw[hsw]
   simp[show ¬ (0:Int)≤i by omega,show i<0 by omega]
set_option maxRecDepth 100000 in
theorem sCone_con (x:GrD) (v:Nat) (hx:fitGr 1048576 x) (hg:okGr x) (hok:netOkB x=true) (hv:v<grN x):ConC Try.prog 72 [igr x,.d (.int .i64 v)] (ints (marksI (coneL x v))):=by
 obtain⟨⟨n1,n2,n3,n4,n5,n6⟩,-,-,-⟩:=netOk_of hok
 obtain⟨hF,hgl,hNi,hno⟩:=ok_sizes hok
 have hcs:=cone_sweep hok hv
 have hcl:=coneL_len (x:=x) (v:=v)
 have hsm:=sMark_con x ((List.replicate (grN x) false).set v true) hx hok (by simp)
 have hat:=rep_at hv
 have hset:(List.replicate (grN x) [D.bool false]).set v [.bool true]=((List.replicate (grN x) false).set v true).map (e1 eBool):=by rw[rep_bools,map_setB]
 rw[hcs] at hsm
 generalize (List.replicate (grN x) false).set v true=m0 at *
 refine con_of (by kernel_rfl) Try.func72 rfl rfl rfl ?_
 simp[enGr]
 refine call_step (sNetOk_con x hx hg) ?_
 simp
 simp[hok,show ¬ (v:Int)<0 by omega]
 refine call_step (sNodeCount_con x) ?_
 simp[hno]
 simp[show ¬ grN x≤v by omega,hv]
 refine call_step (sNodeCount_con x) ?_
 simp[hno]
 refine⟨by omega,?_⟩
 simp[hat,hset]
 refine call_step (hsm) ?_
 simp
 have hmm:marksI (coneL x v)=marksL (coneL x v) (coneL x v).length:=rfl
 rw[hmm]
 generalize coneL x v=s at *
 refine aw_loopU [false,false,false,false,false,true,true,true,false,false,false,false,false,false,false,false,false,false,false,false,false,false,false,false,false,false,false,false,false,false,false,false,false,false,false,false,false,false,false,false,false,false,false,false,false,false,false] (fun k:Nat=>k≤s.length) (fun k:Nat=>[(5,.ref 1),(7,.d (.int .i64 k))]) (fun k:Nat=>[(1,.arr 3 true ((marksL s k).map (e1 eInt)))]) (fun k:Nat=>s.length - k) 0 ?_ ?_ ?_
 · simp
 · exact⟨[0,1,2,3],by simp[marksL]⟩
 rintro I S μ hI hS hμ k hk
 by_cases hlt:k<s.length
 · have hat:=getB_at (s:=s) (v:=k) hlt
   have w2:IntKind.i64.wrap ((k:Int)+1)=(k:Int)+1:=wrap_id (by omega) (by omega)
   have hd:decide (k<s.length)=true:=decide_eq_true hlt
   have hnx:=marksL_succ (s:=s) (k:=k)
   have hll:=marksL_len (s:=s) (k:=k)
   generalize marksL s k=ms at *
   rcases Bool.eq_false_or_eq_true (getB s k) with hb|hb
   · rw[hb,if_pos rfl] at hnx
     simp[hd,hat,hb]
     refine app_data vt_el_26 rfl (by simp) rfl (by simp) (by simp) (by first | (simp;done)|(simp;omega)) (by simp[flatP,flatD]) ?_
     simp[w2]
     exact round_of hI hS hμ (k+1) (by omega) (by omega) ⟨[0,5,2,3],by simp[hnx]⟩
   · rw[hb,if_neg (by simp)] at hnx
     simp[hd,hat,hb,w2]
     exact round_of hI hS hμ (k+1) (by omega) (by omega) ⟨[0,1,2,3],by simp[hnx]⟩
 · have hk':k=s.length:=by omega
   subst hk'
   simp[hlt]
theorem allB_snoc {ms cut:List Int} {k:Nat} {y:Int} (h:cut[k]? = some y):allB ms (cut.take (k+1))=(allB ms (cut.take k)&&hasB ms y):=all_snoc' h
theorem allB_not {ms cut:List Int} {k:Nat} {y:Int} (h:cut[k]? = some y) (hy:hasB ms y=false):allB ms cut=false:=all_not' (p:=fun y=>hasB ms y) h hy
theorem ascB_not {xs:List Int} {k:Nat} (h:k+1<xs.length) (hn:¬ atI xs k<atI xs ((k:Int)+1)):ascB xs=false:=by
 unfold ascB
 rw[Bool.eq_false_iff,ne_eq,List.all_eq_true]
 intro hh
 exact hn (of_decide_eq_true (hh k (List.mem_range.2 (by omega))))
theorem ascB_of {xs:List Int} (h:∀ k:Nat,k+1<xs.length→atI xs k<atI xs ((k:Int)+1)):ascB xs=true :=
 List.all_eq_true.2 fun j hj=>decide_eq_true (h j (by have:=List.mem_range.1 hj;omega))
def ScanI (x:GrD) (cut:List Int) (v:Nat) (k:Nat) (o:List Bool):Prop :=
 o.length=grN x∧getB o v=true∧(∀ u,getB o u=true→Opn cut u→Orc (firstG x) (kidA x) (kidB x) cut v u)∧(∀ u,k<u→u≤v→getB o u=true→Opn cut u→firstG x≤u∧getB o (kidA x u)=true∧getB o (kidB x u)=true)
theorem scan_start {x:GrD} {cut:List Int} {v:Nat} (hv:v<grN x):ScanI x cut v v ((List.replicate (grN x) false).set v true):=by
 have h3:∀ r,(getB ((List.replicate (grN x) false).set v true) r=true↔r=v):=fun r=>by rw[getB_set (by simpa using hv),getB_rep];simp
 exact⟨by simp,(h3 v).2 rfl,fun u hu ho=>by rw[(h3 u).1 hu] at ho ⊢;exact .refl ho,fun u h1 h2=>by omega⟩
theorem scan_skip {x:GrD} {cut:List Int} {v k:Nat} {o:List Bool} (h:ScanI x cut v (k+1) o) (hs:¬ (getB o (k+1)=true∧Opn cut (k+1))):ScanI x cut v k o:=by
 obtain⟨h1,h2,h3,h4⟩:=h
 refine⟨h1,h2,h3,fun u q1 q2 q3 q4=>?_⟩
 by_cases e:u=k+1
 · subst e;exact absurd ⟨q3,q4⟩ hs
 · exact h4 u (by omega) q2 q3 q4
theorem scan_step {x:GrD} {cut:List Int} {v k:Nat} {o:List Bool} (hok:netOkB x=true) (hv:v<grN x) (hk:k+1≤v) (h:ScanI x cut v (k+1) o) (hs:getB o (k+1)=true) (ho:Opn cut (k+1)) (hf:firstG x≤k+1) :
 ScanI x cut v k ((o.set (kidA x (k+1)) true).set (kidB x (k+1)) true):=by
 obtain⟨h1,h2,h3,h4⟩:=h
 obtain⟨k1,k2⟩:=kids_lt hok (k+1) hf (by omega)
 have hg:∀ u,(getB ((o.set (kidA x (k+1)) true).set (kidB x (k+1)) true) u=true↔u=kidB x (k+1)∨u=kidA x (k+1)∨getB o u=true):=fun u=>by
  rw[getB_set (by simp;omega),getB_set (by omega)];simp
 refine⟨by simpa using h1,(hg v).2 (.inr (.inr h2)),fun u hu hou=>?_,fun u q1 q2 q3 q4=>?_⟩
 · rcases (hg u).1 hu with rfl|rfl|hu
   · exact (h3 _ hs ho).snoc_b hf hou
   · exact (h3 _ hs ho).snoc_a hf hou
   · exact h3 u hu hou
 · by_cases e:u=k+1
   · subst e
     exact⟨hf,(hg _).2 (.inr (.inl rfl)),(hg _).2 (.inl rfl)⟩
   · rcases (hg u).1 q3 with e2|e2|hu
     · omega
     · omega
     · obtain⟨r1,r2,r3⟩:=h4 u (by omega) q2 hu q4
       exact⟨r1,(hg _).2 (.inr (.inr r2)),(hg _).2 (.inr (.inr r3))⟩
theorem scan_leak {x:GrD} {cut:List Int} {v k:Nat} {o:List Bool} (h:ScanI x cut v k o) {u:Nat} (hs:getB o u=true) (ho:Opn cut u) (hf:u<firstG x):Leak (firstG x) (kidA x) (kidB x) cut v:=⟨u,h.2.2.1 u hs ho,hf⟩
theorem scan_done {x:GrD} {cut:List Int} {v:Nat} {o:List Bool} (hok:netOkB x=true) (hv:v<grN x) (h:ScanI x cut v 0 o):¬ Leak (firstG x) (kidA x) (kidB x) cut v:=by
 obtain⟨h1,h2,h3,h4⟩:=h
 have key:∀ w u,Orc (firstG x) (kidA x) (kidB x) cut w u→w≤v→getB o w=true→firstG x≤u:=by
  intro w u h
  induction h with
  | @refl w h=>exact fun hw hs=>(h4 w (Nat.pos_of_ne_zero h.1) hw hs h).1
  | @a w u ho h r ih=>exact fun hw hs=>ih (by have:=(kids_lt hok w h (by omega)).1;omega) (h4 w (Nat.pos_of_ne_zero ho.1) hw hs ho).2.1
  | @b w u ho h r ih=>exact fun hw hs=>ih (by have:=(kids_lt hok w h (by omega)).2;omega) (h4 w (Nat.pos_of_ne_zero ho.1) hw hs ho).2.2
 rintro⟨u,hu,hf⟩
 have:=key v u hu (Nat.le_refl _) h2
 omega
set_option maxRecDepth 100000 in
set_option maxHeartbeats 1000000 in
theorem sCutOk_con (x:GrD) (v:Nat) (cut:List Int) (hx:fitGr 1048576 x) (hg:okGr x) (hok:netOkB x=true) (hv:v<grN x) (hc:cut.length≤1048576):ConC Try.prog 67 [igr x,.d (.int .i64 v),ints cut] (.d (.bool (cutOkB x v cut))):=by
 obtain⟨⟨n1,n2,n3,n4,n5,n6⟩,-,-,-⟩:=netOk_of hok
 obtain⟨hF,hgl,hNi,hno⟩:=ok_sizes hok
 have hN:=grN_eq x
 refine con_of (by kernel_rfl) Try.func67 rfl rfl rfl ?_
 simp[enGr]
 refine call_step (sNetOk_con x hx hg) ?_
 simp
 simp[hok,show ¬ (v:Int)<0 by omega]
 refine call_step (sNodeCount_con x) ?_
 simp[hno]
 by_cases h4:cut.length≤4
 case neg=>simp[cutOkB,h4,hv,show ¬ grN x≤v by omega,show (4:Int)<cut.length by omega,show ¬ (cut.length:Int)≤4 by omega]
 simp[show ¬ grN x≤v by omega,hv,show ¬ (4:Int)<cut.length by omega,show (cut.length:Int)≤4 by omega]
 refine call_step (sCone_con x v hx hg hok hv) ?_
 simp
 have hml:(marksI (coneL x v)).length≤1048576:=by
  have:=marksL_len (s:=coneL x v) (k:=(coneL x v).length)
  unfold marksI
  rw[coneL_len] at *
  omega
 have hB:cutOkB x v cut=(ascB cut&&allB (marksI (coneL x v)) cut&&!(escG x cut (v+1) v (List.replicate (grN x) false)).1):=by simp[cutOkB,h4]
 rw[hB]
 generalize marksI (coneL x v)=ms at *
 refine aw_loopU [false,true,true,true,false,false,false,true,true,false,false,false,false,false,false,false,false,false,false,false,false,false,false,false,false,false,false,false,false,false,false,false,false,false,false,false,false,false,false,false,false,false,false,false,false,false,false,false,false,false,false,false,false,false,false,false,false,false,false,false,false,false,false,false,false,false,false,false,false,false,false,false,false,false,false,false,false,false,false,false,false,false,false,false,false,false,false,false,false,false,false,false,false,false,false,false,false,false,false,false,false,false,false,false,false] (fun k:Nat=>k≤cut.length∧allB ms (cut.take k)=true∧∀ j:Nat,j+1<k→atI cut j<atI cut ((j:Int)+1)) (fun k:Nat=>[(8,.d (.int .i64 k))]) (fun k:Nat=>[]) (fun k:Nat=>cut.length - k) 0 ?_ ?_ ?_
 · exact⟨by omega,rfl,fun j h=>by omega⟩
 · exact⟨[0,1],by simp⟩
 rintro I S μ hI hS hμ k ⟨hk,hall,hasc⟩
 by_cases hlt:k<cut.length
 · have hx1:cut[k]? = some cut[k]:=List.getElem?_eq_getElem hlt
   have w2:IntKind.i64.wrap ((k:Int)+1)=(k:Int)+1:=wrap_id (by omega) (by omega)
   have hd:decide (k<cut.length)=true:=decide_eq_true hlt
   have e1':=atI_get hx1
   have hsn:=allB_snoc (ms:=ms) hx1
   have hnt:=allB_not (ms:=ms) hx1
   have hh:=l13Has_con ms cut[k] (by omega)
   simp[hd,hx1]
   refine⟨by kernel_rfl,?_⟩
   generalize cut[k]=y at *
   refine call_step (hh) ?_
   simp
   rcases Bool.eq_false_or_eq_true (hasB ms y) with hr|hr
   · by_cases hk0:k=0
     · subst hk0
       have w20:IntKind.i64.wrap 1=1:=by decide
       simp[hr,hd,hx1,w20]
       exact round_of hI hS hμ 1 ⟨by omega,by rw[hsn,hall,hr];rfl,fun j h=>by omega⟩ (by omega) ⟨[0,1],by simp⟩
     · obtain⟨p,rfl⟩:∃ p,k=p+1:=⟨k - 1,by omega⟩
       have hx0:cut[p]? = some (cut[p]'(by omega)):=List.getElem?_eq_getElem (by omega)
       have e0:=atI_get hx0
       generalize cut[p]'(by omega)=z at *
       have w0:IntKind.i64.wrap (p:Int)=(p:Int):=wrap_id (by omega) (by omega)
       have w3:IntKind.i64.wrap ((p:Int)+1+1)=(p:Int)+1+1:=wrap_id (by omega) (by omega)
       have ht:((p:Int)+1).toNat=p+1:=by omega
       have hd0:decide (p<cut.length)=true:=decide_eq_true (by omega)
       have e2:((p+1:Nat):Int)=(p:Int)+1:=by omega
       rw[e2] at e1'
       by_cases hv:z<y
       · simp[hr,hd,hd0,hx1,hx0,w0,ht,hv,show ¬ y≤z by omega,show (0:Int)<(p:Int)+1 by omega,show decide (0<p+1)=true from decide_eq_true (by omega),w3,show ¬ (p:Int)+1<0 by omega]
         exact round_of hI hS hμ (p+1+1) ⟨by omega,by rw[hsn,hall,hr];rfl,fun j hj=>by
          by_cases e:j=p
          · subst e;rw[e0,e1'];exact hv
          · exact hasc j (by omega)⟩ (by omega) ⟨[0,1],by simp⟩
       · have hz:ascB cut=false:=ascB_not (k:=p) hlt (by rw[e0,e1'];exact hv)
         simp[hr,hd,hd0,hx1,hx0,w0,ht,hv,show y≤z by omega,show (0:Int)<(p:Int)+1 by omega,show decide (0<p+1)=true from decide_eq_true (by omega),hz,show ¬ (p:Int)+1<0 by omega]
   · have hz:=hnt hr
     simp[hr,hd,hx1,hz]
 · have hk':k=cut.length:=by omega
   rw[hk',List.take_length] at hall
   have has:ascB cut=true:=ascB_of fun j hj=>hasc j (by omega)
   have hE:=esc_leak (cut:=cut) (kids_lt hok) hv
   generalize (escG x cut (v+1) v (List.replicate (grN x) false)).1=r at *
   simp[hlt,has,hall]
   refine call_step (sNodeCount_con x) ?_
   simp[hno]
   refine⟨by omega,?_⟩
   have hat:=rep_at hv
   have hset:(List.replicate (grN x) [D.bool false]).set v [.bool true]=((List.replicate (grN x) false).set v true).map (e1 eBool):=by rw[rep_bools,map_setB]
   have hst:=scan_start (cut:=cut) hv
   generalize (List.replicate (grN x) false).set v true=o0 at *
   simp[hat,hset]
   refine aw_loopU [false,false,true,true,false,false,false,false,false,true,true,false,false,false,false,false,false,false,false,false,false,false,false,false,false,false,false,false,false,false,false,false,false,false,false,false,false,false,false,false,false,false,false,false,false,false,false,false,false,false,false,false,false,false,false,false,false,false,false,false,false,false,false,false,false,false,false,false,false,false,false,false,false,false,false,false,false,false,false,false,false,false,false,false,false,false,false,false,false,false,false,false,false,false,false,false,false,false,false,false,false,false,false,false,false] (fun i:Nat×List Bool=>i.1≤v∧ScanI x cut v i.1 i.2) (fun i:Nat×List Bool=>[(10,.d (.int .i64 i.1))]) (fun i:Nat×List Bool=>[(2,.arr 4 true (i.2.map (e1 eBool)))]) (fun i:Nat×List Bool=>i.1) (v,o0) ?_ ?_ ?_
   · exact⟨Nat.le_refl _,hst⟩
   · exact⟨[0,1,2],by simp⟩
   clear hI hS hμ hst
   rintro I S μ hI hS hμ ⟨q,o⟩ ⟨hq,hsc⟩
   simp only at hq hsc
   have hol:=hsc.1
   by_cases hq0:q=0
   · subst hq0
     have hr0:r=false:=by
      cases r with
      | false=>rfl
      | true=>exact absurd (hE.1 rfl) (scan_done hok hv hsc)
     subst hr0
     simp
   obtain⟨k,rfl⟩:∃ k,q=k+1:=⟨q - 1,by omega⟩
   have hat:=getB_at (s:=o) (v:=k+1) (by omega)
   have w4:IntKind.i64.wrap (k:Int)=(k:Int):=wrap_id (by omega) (by omega)
   have ht:((k:Int)+1).toNat=k+1:=by omega
   have h0:(0:Int)<(k:Int)+1:=by omega
   have h1:¬ (k:Int)+1<0:=by omega
   have hok0:Opn cut (k+1)↔¬ (((k:Int)+1)∈cut):=by unfold Opn;simp
   rcases Bool.eq_false_or_eq_true (getB o (k+1)) with hb|hb
   case inr =>
    simp[ht,hat,hb,w4,h0,h1]
    exact round_of hI hS hμ (k,o) ⟨by simp;omega,scan_skip hsc (by simp[hb])⟩ (by simp) ⟨[0,1,2],by simp⟩
   simp[ht,hat,hb,w4,h0,h1]
   refine call_step (l13Has_con cut ((k:Int)+1) (by omega)) ?_
   simp
   rcases Bool.eq_false_or_eq_true (hasB cut ((k:Int)+1)) with hm|hm
   · have hmem:((k:Int)+1)∈cut:=of_decide_eq_true hm
     simp[hm,w4]
     exact round_of hI hS hμ (k,o) ⟨by simp;omega,scan_skip hsc (fun h=>(hok0.1 h.2) hmem)⟩ (by simp) ⟨[0,1,2],by simp⟩
   have hopn:Opn cut (k+1):=hok0.2 (of_decide_eq_false hm)
   simp[hm]
   refine call_step (sFirst_con x ⟨n1,n2⟩ n3) ?_
   simp
   by_cases hf:k+1<firstG x
   · have hr1:r=true:=hE.2 (scan_leak hsc hb hopn hf)
     subst hr1
     simp[show (k:Int)+1<1+x.1+x.2.1.length by omega,show ¬ 1+x.1+(x.2.1.length:Int)≤(k:Int)+1 by omega]
   obtain⟨ha,a1,a2,a3,a4,a5,a6⟩:=and_at hok (v:=k+1) (by omega) (by omega)
   have w1:IntKind.i64.wrap ((k:Int)+1 - (1+x.1+x.2.1.length))=(k:Int)+1 - (1+x.1+x.2.1.length):=wrap_id (by omega) (by omega)
   have hti:((k:Int)+1 - (1+x.1+x.2.1.length)).toNat=k+1 - firstG x:=by omega
   have hL:(enAnd (andAt x (k+1))).length=2:=rfl
   have hn0:¬ (k:Int)+1 - (1+x.1+x.2.1.length)<0:=by omega
   have q1:IntKind.i64.wrap ((andAt x (k+1)).1.tdiv 2)=(kidA x (k+1):Int):=by rw[Int.tdiv_eq_ediv_of_nonneg a1,a3];exact wrap_id (by omega) (by omega)
   have q2:IntKind.i64.wrap ((andAt x (k+1)).2.tdiv 2)=(kidB x (k+1):Int):=by rw[Int.tdiv_eq_ediv_of_nonneg a2,a4];exact wrap_id (by omega) (by omega)
   have hnx:=scan_step hok hv hq hsc hb hopn (by omega)
   have hatA:=getB_at (s:=o) (v:=kidA x (k+1)) (by omega)
   have hsetA:=map_setB (s:=o) (v:=kidA x (k+1)) (b:=true)
   have hlA:(o.set (kidA x (k+1)) true).length=o.length:=by simp
   generalize o.set (kidA x (k+1)) true=sA at *
   have hatB:=getB_at (s:=sA) (v:=kidB x (k+1)) (by omega)
   have hsetB:=map_setB (s:=sA) (v:=kidB x (k+1)) (b:=true)
   generalize sA.set (kidB x (k+1)) true=sB at *
   simp[show ¬ (k:Int)+1<1+x.1+x.2.1.length by omega,show 1+x.1+(x.2.1.length:Int)≤(k:Int)+1 by omega]
   refine⟨by kernel_rfl,?_⟩
   refine call_step (sFirst_con x ⟨n1,n2⟩ n3) ?_
   simp[w1,hti,hL,hn0,ha,enAnd,q1,q2,hatA,hsetA,hatB,hsetB,w4]
   exact round_of hI hS hμ (k,sB) ⟨by simp;omega,hnx⟩ (by simp) ⟨[0,1,2],by simp⟩
end Go.Proofs.Ytakohcpfjkcfdaa
