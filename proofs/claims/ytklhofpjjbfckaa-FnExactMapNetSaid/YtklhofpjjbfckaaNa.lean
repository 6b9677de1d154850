/-
  Contracts of the laws' helpers over graphs, by abstract walks.
  Conditions: those typed in each theorem.
-/
import Derived.Test.YtklhofpjjbfckaaVu
namespace Go.Proofs.Ytklhofpjjbfckaa
open Go.RowKit Go.ChangeShapes Go.WideShapes
set_option linter.unusedVariables false
set_option linter.unusedSimpArgs false
attribute [local simp ↓] condG_true condG_false condB_true condB_false
attribute [local simp] AWp_skip AWp_region_t AWp_region_d AWp_region_f still_mk AWp_seq AWp_cond condV_bool condB AWp_block AWp_exit AWp_ret
attribute [local simp] AOps_nil AOp_move AOp_assign AOp_pick AOp_binOp AOp_unOp AOp_convert AOp_len AOp_max AOp_min AOp_indexAddr AOp_load
attribute [local simp] AOp_fieldAddr AOp_field AOp_extract AOp_nilCheck AOp_build AOp_alloc AOp_box AOp_call AOp_store AOp_append AOp_buildSlice nextB_some
attribute [local simp] nextB_none adoptO adoptC AOp_makeSlice AOp_slice AOp_makeFunc AOp_guard guardD_some guardG_bool guardG_undef nextO_some nextS_some
attribute [local simp] nextZ_some nextL_some nextM_some nextT_some sliceO sliceL sliceT partO partV boundV funcO pickO
attribute [local simp] convO lenO maxO minO idxO extO nilO buildO litO litC makeO chunks
attribute [local simp] fillV placeOf thenA inBlockA St.get St.put St.eval ofCell evalT abin_add abin_sub abin_mul
attribute [local simp] abin_quo abin_rem abin_and abin_or abin_xor abin_andNot abin_shl abin_shr abin_shlu abin_eql abin_eqp abin_neq
attribute [local simp] abin_lss abin_leq abin_gtr abin_geq abin_eqlb abin_neqb aun pickV lenV intOf? indexV takeD
attribute [local simp] takeV loadV fieldAddrV fieldV ofX presD presDs pres presAll cellsV V.cell storeV
attribute [local simp] freezeC putAt kill takeC plains plainV scalarV nat_neg keepT sets eSl e1
attribute [local simp] e2 e3 e4 eInt eBool abinS_d abinS_agg abinS nilEq abin_eqb AOp_makeMap AOp_lookup
attribute [local simp] AOp_mapUpdate lookG_some updG_some mapV kyOf vlOf lookV vlV buildA afterCall inst inst1
attribute [local simp] inst1s instD instDs RetA resVs resV gives give1 give1s Le isPin leSlots
attribute [local simp] leS leTmps leV le0 le0s ren ren0 renS ren0s frame enterT afterT_some
attribute [local simp] afterC_some lives Slot.live arrsOk viewV view0 renT rens renSs setAll List.range'_succ RetT
attribute [local simp] RetW joinV leT AOpsE_nil AOpsE_cons AOpsT_nil AOpsT_cons isCallT isFnO callOf callVC_fn condC_true
attribute [local simp] condC_false beginT_mk thenT_mk pickE pickT isT loose namesOf namesV names1 names0 stableN
attribute [local simp] sameAt Op.operands Call.operands
abbrev AndD:Type:=Int×Int
def enAnd (x:AndD):List D:=e2 eInt eInt x
theorem szAndS_con (xs:List AndD) (l:Int) (hx:xs.length≤9223372036854775807) (hl:0≤l∧l≤1048576) :
 ConC Try.prog 86 [.d (eSl 161 enAnd xs),.d (.int .i64 l)] (.d (.int .i64 (szL xs.length l))):=by
 refine con_of (by kernel_rfl) Try.func86 rfl rfl rfl ?_
 have w1:IntKind.i64.wrap (l - xs.length)=l - xs.length:=wrap_id (by omega) (by omega)
 simp[w1]
 constructor<;>intro h<;>simp[szL,h]<;>omega
theorem toAnd_con (x:AndD):ConC Try.prog 184 [.agg (enAnd x)] (.agg (enAnd x)):=by
 refine con_of (by kernel_rfl) Try.func184 rfl rfl rfl ?_
 simp[enAnd]
theorem eqAnd_con (x:AndD):ConC Try.prog 190 [.agg (enAnd x),.agg (enAnd x)] (.d (.bool true)):=by
 refine con_of (by kernel_rfl) Try.func190 rfl rfl rfl ?_
 simp[enAnd]
def zAnd:List D:=enAnd (0,0)
theorem toAndS_con (xs:List AndD) (hx:xs.length≤1048576) :
 ConC Try.prog 93 [.d (eSl 161 enAnd xs)] (.d (eSl 61 enAnd xs)):=by
 refine con_of (by kernel_rfl) Try.func93 rfl rfl rfl ?_
 simp
 refine⟨by omega,?_⟩
 refine aw_loop' (fun k:Nat=>k≤xs.length) (fun k=>⟨frame 23 [(0,.d (eSl 161 enAnd xs)),(3,.ref 0),(4,.d (.int .i64 k))],[.arr 61 true (mix (xs.map enAnd) zAnd k)]⟩) (fun k=>xs.length - k) 0 (by simp) ?_ ?_
 · exact⟨[0],by simp[mix_zero,enAnd,zAnd]⟩
 rintro I S μ hI hS hμ k hk
 by_cases hlt:k<xs.length
 · have hx1:xs[k]? = some xs[k]:=List.getElem?_eq_getElem hlt
   have w2:IntKind.i64.wrap ((k:Int)+1)=(k:Int)+1:=wrap_id (by omega) (by omega)
   have m1:=mix_len (ys:=xs.map enAnd) (z:=zAnd) (k:=k) (by simp;omega)
   have m3:=mix_set (ys:=xs.map enAnd) (z:=zAnd) (k:=k) (y:=enAnd xs[k]) (by simp[hx1])
   have hL:(enAnd xs[k]).length=2:=rfl
   have hz:zAnd.length=2:=rfl
   have hz2:zAnd.drop 2=[]:=rfl
   rw[List.length_map] at m1
   simp only[enAnd,e2,eInt] at m3
   simp[frame,hlt,hx1,w2,m1,mix_get,hL]
   refine call_step (toAnd_con xs[k]) ?_
   simp[w2,hlt,m1,mix_get,enAnd,hz,hz2,m3]
   exact round_of hI hS hμ (k+1) (by omega) (by omega) ⟨[0],by simp⟩
 · have hk':k=xs.length:=by omega
   subst hk'
   have m4:=mix_all (ys:=xs.map enAnd) (z:=zAnd)
   rw[List.length_map] at m4
   simp[frame,m4]
theorem eqAndS_con (xs:List AndD) (hx:xs.length≤1048576) :
 ConC Try.prog 100 [.d (eSl 61 enAnd xs),.d (eSl 61 enAnd xs)] (.d (.bool true)):=by
 refine con_of (by kernel_rfl) Try.func100 rfl rfl rfl ?_
 simp
 refine aw_loop' (fun k:Nat=>k≤xs.length) (fun k=>⟨frame 27 [(0,.d (eSl 61 enAnd xs)),(1,.d (eSl 61 enAnd xs)),(5,.d (.int .i64 k))],[]⟩) (fun k=>xs.length - k) 0 (by simp) ?_ ?_
 · exact⟨[],by simp⟩
 rintro I S μ hI hS hμ k hk
 by_cases hlt:k<xs.length
 · have hx1:xs[k]? = some xs[k]:=List.getElem?_eq_getElem hlt
   have w2:IntKind.i64.wrap ((k:Int)+1)=(k:Int)+1:=wrap_id (by omega) (by omega)
   have hL:(enAnd xs[k]).length=2:=rfl
   simp[frame,hlt,hx1,w2,hL]
   refine⟨by kernel_rfl,?_⟩
   refine call_step (eqAnd_con xs[k]) ?_
   simp[w2]
   exact round_of hI hS hμ (k+1) (by omega) (by omega) ⟨[],by simp⟩
 · have hk':k=xs.length:=by omega
   subst hk'
   simp[frame]
abbrev GrD:Type:=Int×List SeqD×List AndD×List Int
def enGr (s a:TypeId) (x:GrD):List D:=e4 eInt (eSl s enSeq) (eSl a enAnd) (eSl 3 (e1 eInt)) x
def fitGr (m:Nat) (x:GrD):Prop:=x.2.1.length≤m∧(∀ s∈x.2.1,s.2.2.length≤m)∧x.2.2.1.length≤m∧x.2.2.2.length≤m
def szGrL (x:GrD) (l:Int):Int :=
 if szS szSeqL x.2.1 l<0 then -1 else if szL x.2.2.1.length (szS szSeqL x.2.1 l)<0 then -1 else szL x.2.2.2.length (szL x.2.2.1.length (szS szSeqL x.2.1 l))
theorem szL_le (n:Nat) (l:Int) (h:0≤l):szL n l≤l:=by unfold szL;split<;>omega
theorem szNet_con (x:GrD) (l:Int) (hx:fitGr 9223372036854775807 x) (hl:0≤l∧l≤1048576) :
 ConC Try.prog 22 [.agg (enGr 155 161 x),.d (.int .i64 l)] (.d (.int .i64 (szGrL x l))):=by
 obtain⟨f1,f2,f3,f5⟩:=hx
 have b1:=szS_le szSeqL_le x.2.1 l hl.1
 refine con_of (by kernel_rfl) Try.func22 rfl rfl rfl ?_
 simp[enGr]
 refine call_step (szSeqS_con _ _ f1 f2 hl) ?_
 simp
 refine⟨fun h=>by simp[szGrL,h],fun h1=>?_⟩
 refine call_step (szAndS_con _ _ f3 ⟨h1,by omega⟩) ?_
 simp
 have b2:=szL_le x.2.2.1.length _ h1
 refine⟨fun h=>by simp[szGrL,h],fun h2=>?_⟩
 refine call_step (szInts_con _ _ f5 ⟨h2,by omega⟩) ?_
 simp
 have h1':¬ szS szSeqL x.2.1 l<0:=by omega
 have h2':¬ szL x.2.2.1.length (szS szSeqL x.2.1 l)<0:=by omega
 have ho:=szL_or x.2.2.2.length (szL x.2.2.1.length (szS szSeqL x.2.1 l))
 refine⟨fun h=>?_,fun h=>?_⟩<;>simp[szGrL,h1',h2']<;>omega
theorem toNet_con (x:GrD) (hx:fitGr 1048576 x) :
 ConC Try.prog 24 [.agg (enGr 155 161 x)] (.agg (enGr 31 61 x)):=by
 obtain⟨f1,f2,f3,f5⟩:=hx
 refine con_of (by kernel_rfl) Try.func24 rfl rfl rfl ?_
 simp[enGr]
 refine call_step (toSeqS_con _ f1 f2) ?_
 simp
 refine call_step (toAndS_con _ f3) ?_
 simp
 refine call_step (toInts_con _ f5) ?_
 simp
theorem eqNet_con (x:GrD) (hx:fitGr 1048576 x) :
 ConC Try.prog 27 [.agg (enGr 31 61 x),.agg (enGr 31 61 x)] (.d (.bool true)):=by
 obtain⟨f1,f2,f3,f5⟩:=hx
 refine con_of (by kernel_rfl) Try.func27 rfl rfl rfl ?_
 simp[enGr]
 refine call_step (eqSeqS_con _ f1 f2) ?_
 simp
 refine call_step (eqAndS_con _ f3) ?_
 simp
 refine call_step (eqInts_con _ f5) ?_
 simp
end Go.Proofs.Ytklhofpjjbfckaa
