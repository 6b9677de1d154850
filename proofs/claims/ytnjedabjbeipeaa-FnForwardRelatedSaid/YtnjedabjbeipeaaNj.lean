/-
  Cones and cuts of a graph, by abstract walks: both sides.
  Conditions: those typed in each theorem.
-/
import Derived.Test.YtnjedabjbeipeaaNd
import Derived.Test.YtnjedabjbeipeaaNh
import Derived.Test.YtnjedabjbeipeaaNi
import Derived.Test.YtnjedabjbeipeaaNv
namespace Go.Proofs.Ytnjedabjbeipeaa
open Go.RowKit Go.ChangeShapes Go.WideShapes
set_option linter.unusedVariables false
set_option linter.unusedSimpArgs false
attribute [local simp ↓] condG_true condG_false condB_true condB_false
attribute [local simp] AWp_skip AWp_region_t AWp_region_d AWp_region_f still_mk AWp_seq AWp_cond condV_bool condB AWp_block AWp_exit AWp_ret
attribute [local simp] AOps_nil AOp_move AOp_assign AOp_pick AOp_binOp AOp_unOp AOp_convert AOp_len AOp_max AOp_min AOp_indexAddr AOp_load
attribute [local simp] AOp_fieldAddr AOp_field AOp_extract AOp_nilCheck AOp_build AOp_alloc AOp_box AOp_call AOp_store AOp_append AOp_buildSlice nextB_some
attribute [local simp] nextB_none adoptO adoptC AOp_makeSlice AOp_slice AOp_makeFunc AOp_guard guardD_some guardG_bool guardG_undef nextO_some nextS_some
attribute [local simp] nextZ_some nextL_some nextM_some nextT_some sliceO sliceL sliceT partO partV boundV funcO pickO
attribute [local simp] convO lenO maxO minO idxO extO nilO buildO litO litC makeO chunks
attribute [local simp] fillV placeOf thenA inBlockA St.get St.put St.eval ofCell evalT abin_add abin_sub abin_mul
attribute [local simp] abin_quo abin_rem abin_and abin_or abin_xor abin_andNot abin_shl abin_shr abin_shlu abin_eql abin_eqp abin_neq
attribute [local simp] abin_lss abin_leq abin_gtr abin_geq abin_eqlb abin_neqb aun pickV lenV intOf? indexV takeD
attribute [local simp] takeV loadV fieldAddrV fieldV ofX presD presDs pres presAll cellsV V.cell storeV
attribute [local simp] freezeC putAt kill takeC plains plainV scalarV nat_neg keepT sets eSl e1
attribute [local simp] e2 e3 e4 eInt eBool abinS_d abinS_agg abinS nilEq abin_eqb AOp_makeMap AOp_lookup
attribute [local simp] AOp_mapUpdate lookG_some updG_some mapV kyOf vlOf lookV vlV buildA afterCall inst inst1
attribute [local simp] inst1s instD instDs RetA resVs resV gives give1 give1s Le isPin leSlots
attribute [local simp] leS leTmps leV le0 le0s ren ren0 renS ren0s frame enterT afterT_some
attribute [local simp] afterC_some lives Slot.live arrsOk viewV view0 renT rens renSs setAll List.range'_succ RetT
attribute [local simp] RetW joinV leT AOpsE_nil AOpsE_cons AOpsT_nil AOpsT_cons isCallT isFnO callOf callVC_fn condC_true
attribute [local simp] condC_false beginT_mk beginX_mk AOpsX_zero thenT_mk pickE pickT isT loose namesOf namesV names1
attribute [local simp] names0 stableN sameAt Op.operands Call.operands
attribute [local simp] mcone_len esc_len
abbrev bools (s:List Bool):X:=.d (eSl 4 (e1 eBool) s)
def firstG (x:GrD):Nat:=1+x.1.toNat+x.2.1.length
def andAt (x:GrD) (v:Nat):AndD:=(x.2.2.1[v - firstG x]?).getD (0,0)
def kidA (x:GrD) (v:Nat):Nat:=(andAt x v).1.toNat / 2
def kidB (x:GrD) (v:Nat):Nat:=(andAt x v).2.toNat / 2
theorem grN_eq (x:GrD):grN x=firstG x+x.2.2.1.length:=rfl
theorem and_at {x:GrD} (hok:netOkB x=true) {v:Nat} (h1:firstG x≤v) (h2:v<grN x) :
 x.2.2.1[v - firstG x]? = some (andAt x v)∧0≤(andAt x v).1∧0≤(andAt x v).2∧(andAt x v).1 / 2=(kidA x v:Int)∧(andAt x v).2 / 2=(kidB x v:Int)∧kidA x v<v∧kidB x v<v:=by
 obtain⟨⟨n1,n2,n3,n4,n5,n6⟩,-,-,o3⟩:=netOk_of hok
 rw[grN_eq] at h2
 have hl:v - firstG x<x.2.2.1.length:=by omega
 have ha:x.2.2.1[v - firstG x]? = some (andAt x v):=by unfold andAt;rw[List.getElem?_eq_getElem hl];rfl
 have ho:=o3 _ _ ha
 have hf:(firstG x:Int)=1+x.1+x.2.1.length:=by unfold firstG;omega
 refine⟨ha,ho.1.1,ho.2.1,?_,?_,?_,?_⟩
 · unfold kidA;omega
 · unfold kidB;omega
 · unfold kidA;omega
 · unfold kidB;omega
theorem kids_lt {x:GrD} (hok:netOkB x=true):∀ v,firstG x≤v→v<grN x→kidA x v<v∧kidB x v<v:=fun v h1 h2=>(and_at hok h1 h2).2.2.2.2.2
theorem map_setB {s:List Bool} {v:Nat} {b:Bool}:(s.map (e1 eBool)).set v [.bool b]=(s.set v b).map (e1 eBool):=by rw[List.map_set];rfl
abbrev vgr (x:GrD):V:=.agg [.d (.int .i64 x.1),.d (eSl 31 enSeq x.2.1),.d (eSl 60 enAnd x.2.2.1),.d (eSl 3 (e1 eInt) x.2.2.2)]
theorem isAnd_con (x:GrD) (v:Nat) (h1:0≤x.1∧x.1≤20) (h2:x.2.1.length≤12) (h3:x.2.2.1.length≤300):ConC Try.prog 112 [igr x,.d (.int .i64 v)] (.d (.bool (decide (firstG x≤v)&&decide (v<grN x)))):=by
 have hF:(firstG x:Int)=1+x.1+x.2.1.length:=by unfold firstG;omega
 have hN:=grN_eq x
 refine con_of (by kernel_rfl) Try.func112 rfl rfl rfl ?_
 simp[enGr]
 refine call_step (firstAnd_con x h1 h2) ?_
 simp
 by_cases hf:firstG x≤v
 · simp[show 1+x.1+(x.2.1.length:Int)≤v by omega]
   refine call_step (iNodeCnt_con x h1 h2 h3) ?_
   simp
   by_cases hn:v<grN x
   · simp[hf,hn,show (v:Int)<1+x.1+x.2.1.length+x.2.2.1.length by omega]
   · simp[hf,hn,show ¬ (v:Int)<1+x.1+x.2.1.length+x.2.2.1.length by omega]
 · simp[hf,show ¬ 1+x.1+(x.2.1.length:Int)≤v by omega,show (v:Int)<1+x.1+x.2.1.length by omega]
end Go.Proofs.Ytnjedabjbeipeaa
