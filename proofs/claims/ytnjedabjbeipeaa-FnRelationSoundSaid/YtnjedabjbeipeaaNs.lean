/-
  Steps of sequential elements, by abstract walks.
  Conditions: those typed in each theorem.
-/
import Derived.Test.YtnjedabjbeipeaaNa
namespace Go.Proofs.Ytnjedabjbeipeaa
open Go.RowKit Go.ChangeShapes Go.WideShapes
set_option linter.unusedVariables false
set_option linter.unusedSimpArgs false
attribute [local simp ↓] condG_true condG_false condB_true condB_false
attribute [local simp] AWp_skip AWp_region_t AWp_region_d AWp_region_f still_mk AWp_seq AWp_cond condV_bool condB AWp_block AWp_exit AWp_ret
attribute [local simp] AOps_nil AOp_move AOp_assign AOp_pick AOp_binOp AOp_unOp AOp_convert AOp_len AOp_max AOp_min AOp_indexAddr AOp_load
attribute [local simp] AOp_fieldAddr AOp_field AOp_extract AOp_nilCheck AOp_build AOp_alloc AOp_box AOp_call AOp_store AOp_append AOp_buildSlice nextB_some
attribute [local simp] nextB_none adoptO adoptC AOp_makeSlice AOp_slice AOp_makeFunc AOp_guard guardD_some guardG_bool guardG_undef nextO_some nextS_some
attribute [local simp] nextZ_some nextL_some nextM_some nextT_some sliceO sliceL sliceT partO partV boundV funcO pickO
attribute [local simp] convO lenO maxO minO idxO extO nilO buildO litO litC makeO chunks
attribute [local simp] fillV placeOf thenA inBlockA St.get St.put St.eval ofCell evalT abin_add abin_sub abin_mul
attribute [local simp] abin_quo abin_rem abin_and abin_or abin_xor abin_andNot abin_shl abin_shr abin_shlu abin_eql abin_eqp abin_neq
attribute [local simp] abin_lss abin_leq abin_gtr abin_geq abin_eqlb abin_neqb aun pickV lenV intOf? indexV takeD
attribute [local simp] takeV loadV fieldAddrV fieldV ofX presD presDs pres presAll cellsV V.cell storeV
attribute [local simp] freezeC putAt kill takeC plains plainV scalarV nat_neg keepT sets eSl e1
attribute [local simp] e2 e3 e4 eInt eBool abinS_d abinS_agg abinS nilEq abin_eqb AOp_makeMap AOp_lookup
attribute [local simp] AOp_mapUpdate lookG_some updG_some mapV kyOf vlOf lookV vlV buildA afterCall inst inst1
attribute [local simp] inst1s instD instDs RetA resVs resV gives give1 give1s Le isPin leSlots
attribute [local simp] leS leTmps leV le0 le0s ren ren0 renS ren0s frame enterT afterT_some
attribute [local simp] afterC_some lives Slot.live arrsOk viewV view0 renT rens renSs setAll List.range'_succ RetT
attribute [local simp] RetW joinV leT AOpsE_nil AOpsE_cons AOpsT_nil AOpsT_cons isCallT isFnO callOf callVC_fn condC_true
attribute [local simp] condC_false beginT_mk beginX_mk AOpsX_zero thenT_mk pickE pickT isT loose namesOf namesV names1
attribute [local simp] names0 stableN sameAt Op.operands Call.operands
def ramNext (v a w d:Int):Int:=if w=1 then or64 (andn64 (or64 (and64 (shr64 v (a+1)) 1) (andn64 v 1)) (shl64 1 (a+1))) (shl64 d (a+1)) else or64 (and64 (shr64 v (a+1)) 1) (andn64 v 1)
def seqNextL (kind v i:Int):Int :=
 if kind=0 then (if rng v 0 1 then i % 2 else -1) else if kind=1 then (if rng v 0 31 then ramNext v (i % 4) (shr64 i 3 % 2) (shr64 i 2 % 2) else -1) else -1
def seqMostL (k:Int):Int:=if k=0 then 1 else if k=1 then 31 else -1
theorem seqMost_con (k:Int):ConC Try.prog 109 [.d (.int .i64 k)] (.d (.int .i64 (seqMostL k))):=by
 refine con_of (by kernel_rfl) Try.func109 rfl rfl rfl ?_
 by_cases h0:k=0
 · subst h0
   simp[seqMostL]
 by_cases h1:k=1
 · subst h1
   simp[seqMostL]
 simp[h0,h1,seqMostL,show (k==0)=false by simpa using h0,show (k==1)=false by simpa using h1]
theorem iSeqNext_con (k v i:Int):ConC Try.prog 87 [.d (.int .i64 k),.d (.int .i64 v),.d (.int .i64 i)] (.d (.int .i64 (seqNextL k v i))):=by
 refine con_of (by kernel_rfl) Try.func87 rfl rfl rfl ?_
 simp
 refine call_step (seqMost_con k) ?_
 simp
 refine call_step (inr_con _ _ _) ?_
 simp
 rcases Bool.eq_false_or_eq_true (rng v 0 (seqMostL k)) with hr|hr
 case inr =>
  by_cases h0:k=0
  · subst h0
    rw[show seqMostL 0=1 from rfl] at hr ⊢
    simp[hr,seqNextL]
  by_cases h1:k=1
  · subst h1
    rw[show seqMostL 1=31 from rfl] at hr ⊢
    simp[hr,seqNextL]
  simp[hr,seqNextL,h0,h1]
 by_cases h0:k=0
 · subst h0
   rw[show seqMostL 0=1 from rfl] at hr ⊢
   simp[hr,seqNextL,and64_one]
 by_cases h1:k=1
 case neg =>
  rw[show seqMostL k=-1 by simp[seqMostL,h0,h1]] at hr
  have:=rng_iff.1 hr
  omega
 subst h1
 rw[show seqMostL 1=31 from rfl] at hr ⊢
 have w1:IntKind.u64.wrap (i % 4)=i % 4:=u64_id (by omega) (by omega)
 have w2:IntKind.u64.wrap (i % 4+1)=i % 4+1:=u64_id (by omega) (by omega)
 simp[hr,and64_three,w1,w2,show 0≤i % 4+1 by omega]
 rcases Int.emod_two_eq (shr64 i 3) with hw|hw
 · simp[hr,and64_one,hw,seqNextL,ramNext]
 · simp[hr,and64_one,hw,seqNextL,ramNext,w2,show 0≤i % 4+1 by omega]
def ramNextS (v a w d:Int):Int:=if w=1 then IntKind.i64.wrap (andn64 (IntKind.i64.wrap (andn64 v 1+and64 (shr64 v (a+1)) 1)) (shl64 1 (a+1))+shl64 d (a+1)) else IntKind.i64.wrap (andn64 v 1+and64 (shr64 v (a+1)) 1)
theorem ram_all:∀ v:Fin 32,∀ a:Fin 4,∀ w:Fin 2,∀ d:Fin 2,ramNextS (v.val:Int) (a.val:Int) (w.val:Int) (d.val:Int)=ramNext (v.val:Int) (a.val:Int) (w.val:Int) (d.val:Int)∧0≤ramNext (v.val:Int) (a.val:Int) (w.val:Int) (d.val:Int)∧ramNext (v.val:Int) (a.val:Int) (w.val:Int) (d.val:Int)≤31:=by decide +kernel
theorem ram_eq {v a w d:Int} (hv:0≤v∧v≤31) (ha:0≤a∧a<4) (hw:0≤w∧w<2) (hd:0≤d∧d<2):ramNextS v a w d=ramNext v a w d∧0≤ramNext v a w d∧ramNext v a w d≤31:=by
 have:=ram_all ⟨v.toNat,by omega⟩ ⟨a.toNat,by omega⟩ ⟨w.toNat,by omega⟩ ⟨d.toNat,by omega⟩
 simp only[Int.toNat_of_nonneg hv.1,Int.toNat_of_nonneg ha.1,Int.toNat_of_nonneg hw.1,Int.toNat_of_nonneg hd.1] at this
 exact this
theorem sSeqNext_con (k v i:Int):ConC Try.prog 55 [.d (.int .i64 k),.d (.int .i64 v),.d (.int .i64 i)] (.d (.int .i64 (seqNextL k v i))):=by
 refine con_of (by kernel_rfl) Try.func55 rfl rfl rfl ?_
 simp
 by_cases h0:k=0
 · subst h0
   simp
   refine call_step (sInr_con _ _ _) ?_
   simp
   rcases Bool.eq_false_or_eq_true (rng v 0 1) with hr|hr
   · simp[hr,seqNextL,and64_one]
   · simp[hr,seqNextL]
 have h0':(k==0)=false:=by simpa using h0
 by_cases h1:k=1
 case neg=>simp[h0',h0,h1,seqNextL,show (k != 1)=true by simpa using h1]
 subst h1
 simp
 refine call_step (sInr_con _ _ _) ?_
 simp
 rcases Bool.eq_false_or_eq_true (rng v 0 31) with hr|hr
 case inr=>simp[hr,seqNextL]
 have w2:IntKind.i64.wrap (i % 4+1)=i % 4+1:=wrap_id (by omega) (by omega)
 have he:=ram_eq (rng_iff.1 hr) (a:=i % 4) (w:=shr64 i 3 % 2) (d:=shr64 i 2 % 2) (by omega) (by omega) (by omega)
 have hl:seqNextL 1 v i=ramNextS v (i % 4) (shr64 i 3 % 2) (shr64 i 2 % 2):=by simp[seqNextL,hr,he.1]
 rw[hl]
 clear he hl
 simp[hr,and64_three,w2,show 0≤i % 4+1 by omega]
 rcases Int.emod_two_eq (shr64 i 3) with hw|hw
 · simp[hr,and64_one,hw,ramNextS]
 · simp[hr,and64_one,hw,ramNextS,w2,show 0≤i % 4+1 by omega]
   show _=true
   kernel_rfl
theorem seqNext_neg {k v i:Int}:(seqNextL k v i<0)↔rng v 0 (seqMostL k)=false:=by
 unfold seqNextL seqMostL
 by_cases h0:k=0
 · subst h0
   rcases Bool.eq_false_or_eq_true (rng v 0 1) with hr|hr<;>simp[hr]
   omega
 by_cases h1:k=1
 · subst h1
   rcases Bool.eq_false_or_eq_true (rng v 0 31) with hr|hr
   · have he:=ram_eq (rng_iff.1 hr) (a:=i % 4) (w:=shr64 i 3 % 2) (d:=shr64 i 2 % 2) (by omega) (by omega) (by omega)
     simp[hr]
     omega
   · simp[hr]
 · have hr:rng v 0 (-1)=false:=by
    cases h:rng v 0 (-1) with
    | false=>rfl
    | true=>have:=rng_iff.1 h;omega
   simp[h0,h1,hr]
end Go.Proofs.Ytnjedabjbeipeaa
