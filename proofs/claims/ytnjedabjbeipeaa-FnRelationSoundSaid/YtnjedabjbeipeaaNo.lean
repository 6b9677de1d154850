/-
  Cones, cuts and mappings of a graph: the reference, by abstract walks.
  Conditions: those typed in each theorem.
-/
import Derived.Test.YtnjedabjbeipeaaNk
namespace Go.Proofs.Ytnjedabjbeipeaa
open Go.RowKit Go.ChangeShapes Go.WideShapes
set_option linter.unusedVariables false
set_option linter.unusedSimpArgs false
attribute [local simp ↓] condG_true condG_false condB_true condB_false
attribute [local simp] AWp_skip AWp_region_t AWp_region_d AWp_region_f still_mk AWp_seq AWp_cond condV_bool condB AWp_block AWp_exit AWp_ret
attribute [local simp] AOps_nil AOp_move AOp_assign AOp_pick AOp_binOp AOp_unOp AOp_convert AOp_len AOp_max AOp_min AOp_indexAddr AOp_load
attribute [local simp] AOp_fieldAddr AOp_field AOp_extract AOp_nilCheck AOp_build AOp_alloc AOp_box AOp_call AOp_store AOp_append AOp_buildSlice nextB_some
attribute [local simp] nextB_none adoptO adoptC AOp_makeSlice AOp_slice AOp_makeFunc AOp_guard guardD_some guardG_bool guardG_undef nextO_some nextS_some
attribute [local simp] nextZ_some nextL_some nextM_some nextT_some sliceO sliceL sliceT partO partV boundV funcO pickO
attribute [local simp] convO lenO maxO minO idxO extO nilO buildO litO litC makeO chunks
attribute [local simp] fillV placeOf thenA inBlockA St.get St.put St.eval ofCell evalT abin_add abin_sub abin_mul
attribute [local simp] abin_quo abin_rem abin_and abin_or abin_xor abin_andNot abin_shl abin_shr abin_shlu abin_eql abin_eqp abin_neq
attribute [local simp] abin_lss abin_leq abin_gtr abin_geq abin_eqlb abin_neqb aun pickV lenV intOf? indexV takeD
attribute [local simp] takeV loadV fieldAddrV fieldV ofX presD presDs pres presAll cellsV V.cell storeV
attribute [local simp] freezeC putAt kill takeC plains plainV scalarV nat_neg keepT sets eSl e1
attribute [local simp] e2 e3 e4 eInt eBool abinS_d abinS_agg abinS nilEq abin_eqb AOp_makeMap AOp_lookup
attribute [local simp] AOp_mapUpdate lookG_some updG_some mapV kyOf vlOf lookV vlV buildA afterCall inst inst1
attribute [local simp] inst1s instD instDs RetA resVs resV gives give1 give1s Le isPin leSlots
attribute [local simp] leS leTmps leV le0 le0s ren ren0 renS ren0s frame enterT afterT_some
attribute [local simp] afterC_some lives Slot.live arrsOk viewV view0 renT rens renSs setAll List.range'_succ RetT
attribute [local simp] RetW joinV leT AOpsE_nil AOpsE_cons AOpsT_nil AOpsT_cons isCallT isFnO callOf callVC_fn condC_true
attribute [local simp] condC_false beginT_mk beginX_mk AOpsX_zero thenT_mk pickE pickT isT loose namesOf namesV names1
attribute [local simp] names0 stableN sameAt Op.operands Call.operands
attribute [local simp] mcone_len esc_len
theorem flatP_bools {xs:List Bool}:flatP (xs.map (e1 eBool)):=by
 intro c hc d hd
 obtain⟨x,_,rfl⟩:=List.mem_map.1 hc
 simp at hd
 subst hd
 rfl
def swK (x:GrD) (m0:List Bool):Nat→List Bool
 | 0=>m0
 | j+1=>if getB (swK x m0 j) (grN x - 1 - j)=true then ((swK x m0 j).set (kidA x (grN x - 1 - j)) true).set (kidB x (grN x - 1 - j)) true else swK x m0 j
def sweepG (x:GrD) (m0:List Bool):List Bool:=swK x m0 x.2.2.1.length
theorem swK_len {x:GrD} {m0:List Bool}:∀ j,(swK x m0 j).length=m0.length
 | 0=>rfl
 | j+1=>by unfold swK;split<;>simp[swK_len j]
theorem swK_inv {x:GrD} {m0:List Bool} (hok:netOkB x=true) (hl:m0.length=grN x):∀ j,j≤x.2.2.1.length →
 (∀ u,getB m0 u=true→getB (swK x m0 j) u=true)∧(∀ u,getB (swK x m0 j) u=true→∃ r,getB m0 r=true∧Rch (firstG x) (kidA x) (kidB x) r u) ∧
 ∀ u,grN x - j≤u→u<grN x→getB (swK x m0 j) u=true→firstG x≤u→getB (swK x m0 j) (kidA x u)=true∧getB (swK x m0 j) (kidB x u)=true
 | 0,_=>⟨fun u h=>h,fun u h=>⟨u,h,.refl u⟩,fun u h1 h2=>by omega⟩
 | j+1,hj=>by
   obtain⟨h1,h2,h3⟩:=swK_inv hok hl j (by omega)
   have hlj:=swK_len (x:=x) (m0:=m0) j
   have hN:=grN_eq x
   unfold swK
   generalize hv:grN x - 1 - j=v at *
   by_cases hb:getB (swK x m0 j) v=true
   · rw[if_pos hb]
     obtain⟨k1,k2⟩:=kids_lt hok v (by omega) (by omega)
     have hg:∀ u,(getB (((swK x m0 j).set (kidA x v) true).set (kidB x v) true) u=true↔u=kidB x v∨u=kidA x v∨getB (swK x m0 j) u=true):=fun u=>by
      rw[getB_set (by simp;omega),getB_set (by omega)];simp
     refine⟨fun u h=>(hg u).2 (.inr (.inr (h1 u h))),fun u h=>?_,fun u q1 q2 q3 q4=>?_⟩
     · rcases (hg u).1 h with rfl|rfl|h
       · obtain⟨r,hr,hru⟩:=h2 v hb
         exact⟨r,hr,hru.snoc_b (by omega)⟩
       · obtain⟨r,hr,hru⟩:=h2 v hb
         exact⟨r,hr,hru.snoc_a (by omega)⟩
       · exact h2 u h
     · by_cases huv:u=v
       · subst huv
         exact⟨(hg _).2 (.inr (.inl rfl)),(hg _).2 (.inl rfl)⟩
       · rcases (hg u).1 q3 with e|e|h
         · omega
         · omega
         · obtain⟨r1,r2⟩:=h3 u (by omega) q2 h q4
           exact⟨(hg _).2 (.inr (.inr r1)),(hg _).2 (.inr (.inr r2))⟩
   · rw[if_neg hb]
     refine⟨h1,h2,fun u q1 q2 q3 q4=>?_⟩
     by_cases huv:u=v
     · subst huv;exact absurd q3 hb
     · exact h3 u (by omega) q2 q3 q4
theorem sweep_iff {x:GrD} {m0:List Bool} (hok:netOkB x=true) (hl:m0.length=grN x):∀ u,(getB (sweepG x m0) u=true↔∃ r,getB m0 r=true∧Rch (firstG x) (kidA x) (kidB x) r u):=by
 obtain⟨h1,h2,h3⟩:=swK_inv hok hl x.2.2.1.length (Nat.le_refl _)
 have hN:=grN_eq x
 refine sweep_done (N:=grN x) h2 h1 (by unfold sweepG;rw[swK_len,hl]) (kids_lt hok) fun u q1 q2 q3=>h3 u (by omega) q1 q2 q3
set_option maxRecDepth 100000 in
theorem sMark_con (x:GrD) (m0:List Bool) (hx:fitGr 1048576 x) (hok:netOkB x=true) (hl:m0.length=grN x):ConC Try.prog 154 [igr x,bools m0] (bools (sweepG x m0)):=by
 obtain⟨⟨n1,n2,n3,n4,n5,n6⟩,-,-,-⟩:=netOk_of hok
 obtain⟨hF,hgl,hNi,hno⟩:=ok_sizes hok
 have hN:=grN_eq x
 have w0:IntKind.i64.wrap ((x.2.2.1.length:Int) - 1)=(x.2.2.1.length:Int) - 1:=wrap_id (by omega) (by omega)
 refine con_of (by kernel_rfl) Try.func154 rfl rfl rfl ?_
 simp[enGr]
 refine app_data vt_el_78 rfl (by simp) rfl (by simp) (fun c hc=>by obtain⟨b,_,rfl⟩:=List.mem_map.1 hc;rfl) (by simp;omega) (fun _=>flatP_bools) ?_
 simp[w0]
 refine aw_loopU [false,false,true,false,false,true,true,false,false,false,false,false,false,false,false,false,false,false,false,false,false,false,false,false,false,false,false,false,false,false,false,false,false,false,false,false,false,false,false,false,false,false,false,false] (fun j:Nat=>j≤x.2.2.1.length) (fun j:Nat=>[(6,.d (.int .i64 ((x.2.2.1.length:Int) - 1 - j)))]) (fun j:Nat=>[(2,.arr 4 true ((swK x m0 j).map (e1 eBool)))]) (fun j:Nat=>x.2.2.1.length - j) 0 ?_ ?_ ?_
 · simp
 · exact⟨[0,1,2],by simp[swK]⟩
 rintro I S μ hI hS hμ j hj
 have hlj:=swK_len (x:=x) (m0:=m0) j
 obtain⟨i,hi⟩:∃ i:Int,i=(x.2.2.1.length:Int) - 1 - j:=⟨_,rfl⟩
 rw[←hi]
 by_cases hlt:j<x.2.2.1.length
 · have hsw:swK x m0 (j+1)=if getB (swK x m0 j) (grN x - 1 - j)=true then ((swK x m0 j).set (kidA x (grN x - 1 - j)) true).set (kidB x (grN x - 1 - j)) true else swK x m0 j:=rfl
   generalize swK x m0 j=s at *
   obtain⟨v,hv⟩:∃ v,v=grN x - 1 - j:=⟨_,rfl⟩
   rw[←hv] at hsw
   obtain⟨ha,a1,a2,a3,a4,a5,a6⟩:=and_at hok (v:=v) (by omega) (by omega)
   have hat:=getB_at (s:=s) (v:=v) (by omega)
   have w1:IntKind.i64.wrap (1+x.1+(x.2.1.length:Int)+i)=(v:Int):=by rw[wrap_id (by omega) (by omega)];omega
   have w2:IntKind.i64.wrap (i - 1)=(x.2.2.1.length:Int) - 1 - ((j:Int)+1):=by rw[wrap_id (by omega) (by omega)];omega
   have ht:i.toNat=v - firstG x:=by omega
   have hL:(enAnd (andAt x v)).length=2:=rfl
   have q1:IntKind.i64.wrap ((andAt x v).1.tdiv 2)=(kidA x v:Int):=by rw[Int.tdiv_eq_ediv_of_nonneg a1,a3];exact wrap_id (by omega) (by omega)
   have q2:IntKind.i64.wrap ((andAt x v).2.tdiv 2)=(kidB x v:Int):=by rw[Int.tdiv_eq_ediv_of_nonneg a2,a4];exact wrap_id (by omega) (by omega)
   simp[show (0:Int)≤i by omega]
   refine call_step (sFirst_con x ⟨n1,n2⟩ n3) ?_
   simp[w1,hat]
   rcases Bool.eq_false_or_eq_true (getB s v) with hb|hb
   · rw[hb,if_pos rfl] at hsw
     have hatA:=getB_at (s:=s) (v:=kidA x v) (by omega)
     have hsetA:=map_setB (s:=s) (v:=kidA x v) (b:=true)
     have hlA:(s.set (kidA x v) true).length=s.length:=by simp
     generalize s.set (kidA x v) true=sA at *
     have hatB:=getB_at (s:=sA) (v:=kidB x v) (by omega)
     have hsetB:=map_setB (s:=sA) (v:=kidB x v) (b:=true)
     generalize sA.set (kidB x v) true=sB at *
     simp[hb,hat,ha,ht,hL,enAnd,q1,q2,hatA,hsetA,hatB,hsetB,w2,show ¬ i<0 by omega]
     exact round_of hI hS hμ (j+1) (by omega) (by omega) ⟨[0,1,2],by simp[hsw]⟩
   · rw[hb,if_neg (by simp)] at hsw
     simp[hb,hat,w2]
     exact round_of hI hS hμ (j+1) (by omega) (by omega) ⟨[0,1,2],by simp[hsw]⟩
 · have hj':j=x.2.2.1.length:=by omega
   subst hj'
   have hsw:swK x m0 x.2.2.1.length=sweepG x m0:=rfl
   rw[hsw]
   simp[show ¬ (0:Int)≤i by omega,show i<0 by omega]
end Go.Proofs.Ytnjedabjbeipeaa
