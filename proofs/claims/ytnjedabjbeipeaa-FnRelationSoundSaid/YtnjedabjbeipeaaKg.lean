/-
  The links of forward retiming, by abstract walks: the program's side.
  Conditions: those typed in each theorem.
-/
import Derived.Test.YtnjedabjbeipeaaUc
import Derived.Test.YtnjedabjbeipeaaKe
import Derived.Test.YtnjedabjbeipeaaPq
namespace Go.Proofs.Ytnjedabjbeipeaa
open Go.RowKit Go.ChangeShapes Go.WideShapes
set_option linter.unusedVariables false
set_option linter.unusedSimpArgs false
attribute [local simp ↓] condG_true condG_false condB_true condB_false
attribute [local simp] AWp_skip AWp_region_t AWp_region_d AWp_region_f still_mk AWp_seq AWp_cond condV_bool condB AWp_block AWp_exit AWp_ret
attribute [local simp] AOps_nil AOp_move AOp_assign AOp_pick AOp_binOp AOp_unOp AOp_convert AOp_len AOp_max AOp_min AOp_indexAddr AOp_load
attribute [local simp] AOp_fieldAddr AOp_field AOp_extract AOp_nilCheck AOp_build AOp_alloc AOp_box AOp_call AOp_store AOp_append AOp_buildSlice nextB_some
attribute [local simp] nextB_none adoptO adoptC AOp_makeSlice AOp_slice AOp_makeFunc AOp_guard guardD_some guardG_bool guardG_undef nextO_some nextS_some
attribute [local simp] nextZ_some nextL_some nextM_some nextT_some sliceO sliceL sliceT partO partV boundV funcO pickO
attribute [local simp] convO lenO maxO minO idxO extO nilO buildO litO litC makeO chunks
attribute [local simp] fillV placeOf thenA inBlockA St.get St.put St.eval ofCell evalT abin_add abin_sub abin_mul
attribute [local simp] abin_quo abin_rem abin_and abin_or abin_xor abin_andNot abin_shl abin_shr abin_shlu abin_eql abin_eqp abin_neq
attribute [local simp] abin_lss abin_leq abin_gtr abin_geq abin_eqlb abin_neqb aun pickV lenV intOf? indexV takeD
attribute [local simp] takeV loadV fieldAddrV fieldV ofX presD presDs pres presAll cellsV V.cell storeV
attribute [local simp] freezeC putAt kill takeC plains plainV scalarV nat_neg keepT sets eSl e1
attribute [local simp] e2 e3 e4 eInt eBool abinS_d abinS_agg abinS nilEq abin_eqb AOp_makeMap AOp_lookup
attribute [local simp] AOp_mapUpdate lookG_some updG_some mapV kyOf vlOf lookV vlV buildA afterCall inst inst1
attribute [local simp] inst1s instD instDs RetA resVs resV gives give1 give1s Le isPin leSlots
attribute [local simp] leS leTmps leV le0 le0s ren ren0 renS ren0s frame enterT afterT_some
attribute [local simp] afterC_some lives Slot.live arrsOk viewV view0 renT rens renSs setAll List.range'_succ RetT
attribute [local simp] RetW joinV leT AOpsE_nil AOpsE_cons AOpsT_nil AOpsT_cons isCallT isFnO callOf callVC_fn condC_true
attribute [local simp] condC_false beginT_mk beginX_mk AOpsX_zero thenT_mk pickE pickT isT loose namesOf namesV names1
attribute [local simp] names0 stableN sameAt Op.operands Call.operands
theorem fwdG_fit {x:GrD} {k:Int} (hx:fitGr 1048576 x) (h:fwdOkB x k=true):fitGr 1048576 (fwdG x k):=by
 obtain⟨⟨n1,n2,n3,n4,n5,n6⟩,-,-,-⟩:=netOk_of (fwdG_ok h)
 refine⟨by omega,fun s hs=>?_,by omega,by omega⟩
 rcases List.mem_append.1 hs with hs|hs
 · obtain⟨t,ht,rfl⟩:=List.mem_map.1 hs
   have:=hx.2.1 t ht
   simpa [mapSeq] using this
 · rw[List.mem_singleton.1 hs];simp
theorem keptG_in {x:GrD}:∀ y∈keptG x,0≤y∧y<x.2.1.length:=fun y hy=>by
 unfold keptG at hy
 split at hy
 · exact keptK_in _ y hy
 · simp at hy
end Go.Proofs.Ytnjedabjbeipeaa
/-
  Pruning and forward retiming as they are asked for; nets with many flip-flops as they are drawn. Plain lemmas and abstract walks.
  Conditions: those typed in each theorem.
-/
namespace Go.Proofs.Ytnjedabjbeipeaa
open Go.RowKit Go.ChangeShapes Go.WideShapes
set_option linter.unusedVariables false
set_option linter.unusedSimpArgs false
attribute [local simp ↓] condG_true condG_false condB_true condB_false
attribute [local simp] AWp_skip AWp_region_t AWp_region_d AWp_region_f still_mk AWp_seq AWp_cond condV_bool condB AWp_block AWp_exit AWp_ret
attribute [local simp] AOps_nil AOp_move AOp_assign AOp_pick AOp_binOp AOp_unOp AOp_convert AOp_len AOp_max AOp_min AOp_indexAddr AOp_load
attribute [local simp] AOp_fieldAddr AOp_field AOp_extract AOp_nilCheck AOp_build AOp_alloc AOp_box AOp_call AOp_store AOp_append AOp_buildSlice nextB_some
attribute [local simp] nextB_none adoptO adoptC AOp_makeSlice AOp_slice AOp_makeFunc AOp_guard guardD_some guardG_bool guardG_undef nextO_some nextS_some
attribute [local simp] nextZ_some nextL_some nextM_some nextT_some sliceO sliceL sliceT partO partV boundV funcO pickO
attribute [local simp] convO lenO maxO minO idxO extO nilO buildO litO litC makeO chunks
attribute [local simp] fillV placeOf thenA inBlockA St.get St.put St.eval ofCell evalT abin_add abin_sub abin_mul
attribute [local simp] abin_quo abin_rem abin_and abin_or abin_xor abin_andNot abin_shl abin_shr abin_shlu abin_eql abin_eqp abin_neq
attribute [local simp] abin_lss abin_leq abin_gtr abin_geq abin_eqlb abin_neqb aun pickV lenV intOf? indexV takeD
attribute [local simp] takeV loadV fieldAddrV fieldV ofX presD presDs pres presAll cellsV V.cell storeV
attribute [local simp] freezeC putAt kill takeC plains plainV scalarV nat_neg keepT sets eSl e1
attribute [local simp] e2 e3 e4 eInt eBool abinS_d abinS_agg abinS nilEq abin_eqb AOp_makeMap AOp_lookup
attribute [local simp] AOp_mapUpdate lookG_some updG_some mapV kyOf vlOf lookV vlV buildA afterCall inst inst1
attribute [local simp] inst1s instD instDs RetA resVs resV gives give1 give1s Le isPin leSlots
attribute [local simp] leS leTmps leV le0 le0s ren ren0 renS ren0s frame enterT afterT_some
attribute [local simp] afterC_some lives Slot.live arrsOk viewV view0 renT rens renSs setAll List.range'_succ RetT
attribute [local simp] RetW joinV leT AOpsE_nil AOpsE_cons AOpsT_nil AOpsT_cons isCallT isFnO callOf callVC_fn condC_true
attribute [local simp] condC_false beginT_mk beginX_mk AOpsX_zero thenT_mk pickE pickT isT loose namesOf namesV names1
attribute [local simp] names0 stableN sameAt Op.operands Call.operands
def frI (x:GrD) (c:Cur):Nat→Cur×List AndD
 | 0=>(c,x.2.2.1)
 | i+1=>if onceV (frI x c i).1 2=true then
    (belowC (belowC (belowC (frI x c i).1 2) (2*x.2.1.length)) (2*x.2.1.length),
      (frI x c i).2.set i (2*(1+x.1)+belowV (belowC (frI x c i).1 2) (2*x.2.1.length),2*(1+x.1)+belowV (belowC (belowC (frI x c i).1 2) (2*x.2.1.length)) (2*x.2.1.length)))
   else (belowC (frI x c i).1 2,(frI x c i).2)
def frN (x:GrD):Nat:=if x.2.1.length=0 then 0 else x.2.2.1.length
def frX (x:GrD) (c:Cur):GrD:=(x.1,x.2.1,(frI x c (frN x)).2,x.2.2.2)
def frG (c:Cur):GrD:=frX (flsG c) (flsC c)
def frC (c:Cur):Cur:=(frI (flsG c) (flsC c) (frN (flsG c))).1
section
variable {x:GrD} {c:Cur}
theorem frI_succ {i:Nat}:frI x c (i+1)=if onceV (frI x c i).1 2=true then
 (belowC (belowC (belowC (frI x c i).1 2) (2*x.2.1.length)) (2*x.2.1.length),
   (frI x c i).2.set i (2*(1+x.1)+belowV (belowC (frI x c i).1 2) (2*x.2.1.length),2*(1+x.1)+belowV (belowC (belowC (frI x c i).1 2) (2*x.2.1.length)) (2*x.2.1.length)))
 else (belowC (frI x c i).1 2,(frI x c i).2):=rfl
theorem frI_len:∀ i,(frI x c i).2.length=x.2.2.1.length
 | 0=>rfl
 | i+1=>by
   rw[frI_succ]
   split
   · rw[List.length_set];exact frI_len i
   · exact frI_len i
theorem frI_ok (h:c.ok):∀ i,(frI x c i).1.ok
 | 0=>h
 | i+1=>by
   rw[frI_succ]
   split
   · exact belowC_ok (belowC_ok (belowC_ok (frI_ok h i)))
   · exact belowC_ok (frI_ok h i)
def fitsA (x:GrD) (al:List AndD):Prop:=∀ (k:Nat) (a:AndD),al[k]? = some a→(0≤a.1∧a.1<2*(1+x.1+x.2.1.length+k))∧0≤a.2∧a.2<2*(1+x.1+x.2.1.length+k)
theorem frI_fits (h0:0≤x.1) (hq:0<x.2.1.length) (h:fitsA x x.2.2.1):∀ i,fitsA x (frI x c i).2
 | 0=>h
 | i+1=>by
   have ih:=frI_fits h0 hq h i
   rw[frI_succ]
   split
   · have r1:=belowV_rng (belowC (frI x c i).1 2) (n:=2*x.2.1.length) (by omega)
     have r2:=belowV_rng (belowC (belowC (frI x c i).1 2) (2*x.2.1.length)) (n:=2*x.2.1.length) (by omega)
     intro k a ha
     by_cases e:i=k
     · subst e
       have hl:=(List.getElem?_eq_some_iff.1 ha).1
       rw[List.getElem?_set_self (by simpa using hl)] at ha
       obtain rfl:=Option.some.inj ha
       simp only
       omega
     · rw[List.getElem?_set_ne e] at ha
       exact ih k a ha
   · exact ih
theorem frX_ok (hok:netOkB x=true):netOkB (frX x c)=true:=by
 obtain⟨⟨n1,n2,n3,n4,n5,n6⟩,o1,o2,o3⟩:=netOk_of hok
 have hl:(frX x c).2.2.1.length=x.2.2.1.length:=frI_len _
 have hN:grN (frX x c)=grN x:=by
  show 1+x.1.toNat+x.2.1.length+(frX x c).2.2.1.length=1+x.1.toNat+x.2.1.length+x.2.2.1.length
  omega
 have hF:((firstG x:Nat):Int)=1+x.1+x.2.1.length:=by unfold firstG;omega
 have hr:∀ y∈grRoots x,0≤y∧y<2*(grN (frX x c):Int):=by rw[hN];exact o2
 refine netOk_mk ⟨n1,n2⟩ n3 (by rw[hl];exact n4) n5 o1 (fun y hy=>hr y (outs_root hy)) (fun s hs y hy=>?_) (andsFit_of fun k a ha=>?_)
 · exact hr y (List.mem_append_right _ (List.mem_flatten.2 ⟨s.2.2,List.mem_map.2 ⟨s,hs,rfl⟩,hy⟩))
 · have h2:fitsA x (frX x c).2.2.1:=by
    show fitsA x (frI x c (frN x)).2
    unfold frN
    split
    · exact o3
    · exact frI_fits n1 (by omega) o3 _
   have:=h2 k a ha
   have e:firstG (frX x c)=firstG x:=rfl
   rw[e]
   omega
end
theorem frG_ok (c:Cur):netOkB (frG c)=true:=frX_ok flsG_ok
theorem frC_ok {c:Cur} (h:c.ok):(frC c).ok:=frI_ok (flsC_ok h) _
theorem frG_nums (c:Cur):(frG c).1≤2∧(frG c).2.1.length≤4:=by
 obtain⟨h1,h2,h3⟩:=fls_nums c
 have lS:(qzPS c).2.length=qzSq c:=drS_len _
 refine⟨h1.2,?_⟩
 show (qzPS c).2.length≤4
 omega
end Go.Proofs.Ytnjedabjbeipeaa
