/-
  Numbers and their bits. Plain lemmas, about no function of the program.
  Conditions: those typed in each theorem.
-/
import Derived.Test.YtakohcpfjkcfdaaV5
import Derived.IntWalk
import Derived.Test.YtakohcpfjkcfdaaV6
namespace Go.Proofs.Ytakohcpfjkcfdaa
open Go.RowKit Go.ChangeShapes Go.WideShapes
set_option linter.unusedVariables false
theorem ofInt_toNat (a:Int):(BitVec.ofInt 64 a).toNat=(a % 18446744073709551616).toNat:=by simp
theorem and64_one (a:Int):and64 a 1=a % 2:=by
 unfold and64
 rw[BitVec.toNat_and,ofInt_toNat,ofInt_toNat,show ((1:Int) % 18446744073709551616).toNat=1 from rfl,Nat.and_one_is_mod,wrap_id (by omega) (by omega)]
 omega
theorem toNat_of_small {a:Int} (h0:0≤a) (h1:a<18446744073709551616):(BitVec.ofInt 64 a).toNat=a.toNat:=by
 rw[ofInt_toNat,Int.emod_eq_of_lt h0 h1]
def flip (x:Int):Int:=if x % 2=0 then x+1 else x - 1
theorem xor64_one {a:Int} (h0:0≤a) (h1:a<4611686018427387904):xor64 a 1=flip a:=by
 unfold xor64 flip
 rw[BitVec.toNat_xor,toNat_of_small h0 (by omega),show (BitVec.ofInt 64 1).toNat=1 from rfl]
 obtain⟨n,rfl⟩:∃ n:Nat,a=n:=⟨a.toNat,by omega⟩
 rw[Int.toNat_natCast]
 have h:=Nat.div_add_mod n 2
 have h1:=Nat.div_add_mod (n ^^^ 1) 2
 have h2:(n ^^^ 1) / 2=n / 2:=by rw[Nat.xor_div_two];simp
 have h3:=Nat.xor_mod_two_eq_one (a:=n) (b:=1)
 rw[wrap_id (by omega) (by omega)]
 split<;>omega
theorem xor64_zero {a:Int} (h0:0≤a) (h1:a<4611686018427387904):xor64 a 0=a:=by
 unfold xor64
 rw[BitVec.toNat_xor,toNat_of_small h0 (by omega),show (BitVec.ofInt 64 0).toNat=0 from rfl,Nat.xor_zero,wrap_id (by omega) (by omega)]
 omega
theorem quo2 {a:Int} (h0:0≤a) (h1:a≤9223372036854775807):IntKind.i64.wrap (a.tdiv 2)=a / 2:=by
 rw[Int.tdiv_eq_ediv_of_nonneg h0,wrap_id (by omega) (by omega)]
end Go.Proofs.Ytakohcpfjkcfdaa
/-
  Ranges, tables and sequential elements, by abstract walks.
  Conditions: those typed in each theorem.
-/
namespace Go.Proofs.Ytakohcpfjkcfdaa
open Go.RowKit Go.ChangeShapes Go.WideShapes
set_option linter.unusedVariables false
set_option linter.unusedSimpArgs false
theorem sInr_con (n lo hi:Int):ConC Try.prog 29 [.d (.int .i64 n),.d (.int .i64 lo),.d (.int .i64 hi)] (.d (.bool (rng n lo hi))):=by
 refine con_of (by kernel_rfl) Try.func29 rfl rfl rfl ?_
 simp[AWp_region_f,AWp_seq,↓condG_true,↓condG_false,condG_true,condG_false,AWp_ret,AOps_nil,AOp_move,AOp_assign,AOp_pick,AOp_binOp,AOp_guard,guardD_some,guardG_bool,nextO_some,pickO,thenA,St.get,St.put,St.eval,ofCell,evalT,abin_leq,abin_geq,pickV,ofX,abinS,rng]
 constructor<;>intro h<;>simp[RetA,resVs,resV,gives,give1,takeC,St.get,h]<;>omega
theorem rng_iff {n lo hi:Int}:rng n lo hi=true↔lo≤n∧n≤hi:=by simp[rng]
def belowB (xs:List Int) (n:Int):Bool:=xs.all fun x=>rng x 0 (n - 1)
def seqOkB (x:SeqD):Bool :=
 if x.1=0 then rng x.2.1 0 1&&decide (x.2.2.length=1) else if x.1=1 then rng x.2.1 0 31&&decide (x.2.2.length=4) else false
theorem seqOk_con (x:SeqD):ConC Try.prog 53 [.agg (enSeq x)] (.d (.bool (seqOkB x))):=by
 refine con_of (by kernel_rfl) Try.func53 rfl rfl rfl ?_
 simp[AWp_skip,AWp_region_f,AWp_seq,AWp_cond,condV_bool,condB,AWp_block,AWp_ret,AOps_nil,AOp_assign,AOp_binOp,AOp_load,AOp_fieldAddr,AOp_box,AOp_call,nextO_some,thenA,inBlockA,St.get,St.put,St.eval,ofCell,evalT,abin_eql,takeV,loadV,fieldAddrV,ofX,presD,pres,presAll,cellsV,V.cell,eSl,e3,eInt,abinS,enSeq]
 by_cases h0:x.1=0
 · simp[h0]
   refine call_step (inr_con _ _ _) ?_
   simp only[afterCall,inst,inst1,instD]
   simp[↓condG_true,↓condG_false,condG_true,condG_false,AWp_ret,AOps_nil,AOp_move,AOp_assign,AOp_pick,AOp_binOp,AOp_len,AOp_load,AOp_fieldAddr,AOp_guard,guardD_some,guardG_bool,nextO_some,pickO,lenO,thenA,inBlockA,St.get,St.put,St.eval,ofCell,evalT,abin_eql,pickV,lenV,takeV,loadV,fieldAddrV,abinS]
   rcases Bool.eq_false_or_eq_true (rng x.2.1 0 1) with h|h<;>simp[↓condG_true,↓condG_false,condG_true,condG_false,St.get,takeC,h,RetA,resVs,resV,gives,give1,takeC,St.get,seqOkB,h0]
   by_cases h2:x.2.2.length=1<;>simp[h2]<;>omega
 by_cases h1:x.1=1
 · simp[h1]
   refine call_step (inr_con _ _ _) ?_
   simp only[afterCall,inst,inst1,instD]
   simp[↓condG_true,↓condG_false,condG_true,condG_false,AWp_ret,AOps_nil,AOp_move,AOp_assign,AOp_pick,AOp_binOp,AOp_len,AOp_load,AOp_fieldAddr,AOp_guard,guardD_some,guardG_bool,nextO_some,pickO,lenO,thenA,inBlockA,St.get,St.put,St.eval,ofCell,evalT,abin_eql,pickV,lenV,takeV,loadV,fieldAddrV,abinS]
   rcases Bool.eq_false_or_eq_true (rng x.2.1 0 31) with h|h<;>simp[↓condG_true,↓condG_false,condG_true,condG_false,St.get,takeC,h,RetA,resVs,resV,gives,give1,takeC,St.get,seqOkB,h1]
   by_cases h2:x.2.2.length=4<;>simp[h2]<;>omega
 · simp[St.get,takeC,h0,h1,RetA,resVs,resV,gives,give1,takeC,St.get,seqOkB]
end Go.Proofs.Ytakohcpfjkcfdaa
/-
  Steps of sequential elements, by abstract walks.
  Conditions: those typed in each theorem.
-/
namespace Go.Proofs.Ytakohcpfjkcfdaa
open Go.RowKit Go.ChangeShapes Go.WideShapes
set_option linter.unusedVariables false
set_option linter.unusedSimpArgs false
attribute [local simp ↓] condG_true condG_false condB_true condB_false
attribute [local simp] AWp_skip AWp_region_t AWp_region_d AWp_region_f still_mk AWp_seq AWp_cond condV_bool condB AWp_block AWp_exit AWp_ret
attribute [local simp] AOps_nil AOp_move AOp_assign AOp_pick AOp_binOp AOp_unOp AOp_convert AOp_len AOp_max AOp_min AOp_indexAddr AOp_load
attribute [local simp] AOp_fieldAddr AOp_field AOp_extract AOp_nilCheck AOp_build AOp_alloc AOp_box AOp_call AOp_store AOp_append AOp_buildSlice nextB_some
attribute [local simp] nextB_none adoptO adoptC AOp_makeSlice AOp_slice AOp_makeFunc AOp_guard guardD_some guardG_bool guardG_undef nextO_some nextS_some
attribute [local simp] nextZ_some nextL_some nextM_some nextT_some sliceO sliceL sliceT partO partV boundV funcO pickO
attribute [local simp] convO lenO maxO minO idxO extO nilO buildO litO litC makeO chunks
attribute [local simp] fillV placeOf thenA inBlockA St.get St.put St.eval ofCell evalT abin_add abin_sub abin_mul
attribute [local simp] abin_quo abin_rem abin_and abin_or abin_xor abin_andNot abin_shl abin_shr abin_shlu abin_eql abin_eqp abin_neq
attribute [local simp] abin_lss abin_leq abin_gtr abin_geq abin_eqlb abin_neqb aun pickV lenV intOf? indexV takeD
attribute [local simp] takeV loadV fieldAddrV fieldV ofX presD presDs pres presAll cellsV V.cell storeV
attribute [local simp] freezeC putAt kill takeC plains plainV scalarV nat_neg keepT sets eSl e1
attribute [local simp] e2 e3 e4 eInt eBool abinS_d abinS_agg abinS nilEq abin_eqb AOp_makeMap AOp_lookup
attribute [local simp] AOp_mapUpdate lookG_some updG_some mapV kyOf vlOf lookV vlV buildA afterCall inst inst1
attribute [local simp] inst1s instD instDs RetA resVs resV gives give1 give1s Le isPin leSlots
attribute [local simp] leS leTmps leV le0 le0s ren ren0 renS ren0s frame enterT afterT_some
attribute [local simp] afterC_some lives Slot.live arrsOk viewV view0 renT rens renSs setAll List.range'_succ RetT
attribute [local simp] RetW joinV leT AOpsE_nil AOpsE_cons AOpsT_nil AOpsT_cons isCallT isFnO callOf callVC_fn condC_true
attribute [local simp] condC_false beginT_mk thenT_mk pickE pickT isT loose namesOf namesV names1 names0 stableN
attribute [local simp] sameAt Op.operands Call.operands
end Go.Proofs.Ytakohcpfjkcfdaa
/-
  Contracts of the laws' helpers over graphs, by abstract walks.
  Conditions: those typed in each theorem.
-/
namespace Go.Proofs.Ytakohcpfjkcfdaa
open Go.RowKit Go.ChangeShapes Go.WideShapes
set_option linter.unusedVariables false
set_option linter.unusedSimpArgs false
attribute [local simp ↓] condG_true condG_false condB_true condB_false
attribute [local simp] AWp_skip AWp_region_t AWp_region_d AWp_region_f still_mk AWp_seq AWp_cond condV_bool condB AWp_block AWp_exit AWp_ret
attribute [local simp] AOps_nil AOp_move AOp_assign AOp_pick AOp_binOp AOp_unOp AOp_convert AOp_len AOp_max AOp_min AOp_indexAddr AOp_load
attribute [local simp] AOp_fieldAddr AOp_field AOp_extract AOp_nilCheck AOp_build AOp_alloc AOp_box AOp_call AOp_store AOp_append AOp_buildSlice nextB_some
attribute [local simp] nextB_none adoptO adoptC AOp_makeSlice AOp_slice AOp_makeFunc AOp_guard guardD_some guardG_bool guardG_undef nextO_some nextS_some
attribute [local simp] nextZ_some nextL_some nextM_some nextT_some sliceO sliceL sliceT partO partV boundV funcO pickO
attribute [local simp] convO lenO maxO minO idxO extO nilO buildO litO litC makeO chunks
attribute [local simp] fillV placeOf thenA inBlockA St.get St.put St.eval ofCell evalT abin_add abin_sub abin_mul
attribute [local simp] abin_quo abin_rem abin_and abin_or abin_xor abin_andNot abin_shl abin_shr abin_shlu abin_eql abin_eqp abin_neq
attribute [local simp] abin_lss abin_leq abin_gtr abin_geq abin_eqlb abin_neqb aun pickV lenV intOf? indexV takeD
attribute [local simp] takeV loadV fieldAddrV fieldV ofX presD presDs pres presAll cellsV V.cell storeV
attribute [local simp] freezeC putAt kill takeC plains plainV scalarV nat_neg keepT sets eSl e1
attribute [local simp] e2 e3 e4 eInt eBool abinS_d abinS_agg abinS nilEq abin_eqb AOp_makeMap AOp_lookup
attribute [local simp] AOp_mapUpdate lookG_some updG_some mapV kyOf vlOf lookV vlV buildA afterCall inst inst1
attribute [local simp] inst1s instD instDs RetA resVs resV gives give1 give1s Le isPin leSlots
attribute [local simp] leS leTmps leV le0 le0s ren ren0 renS ren0s frame enterT afterT_some
attribute [local simp] afterC_some lives Slot.live arrsOk viewV view0 renT rens renSs setAll List.range'_succ RetT
attribute [local simp] RetW joinV leT AOpsE_nil AOpsE_cons AOpsT_nil AOpsT_cons isCallT isFnO callOf callVC_fn condC_true
attribute [local simp] condC_false beginT_mk thenT_mk pickE pickT isT loose namesOf namesV names1 names0 stableN
attribute [local simp] sameAt Op.operands Call.operands
abbrev AndD:Type:=Int×Int
def enAnd (x:AndD):List D:=e2 eInt eInt x
abbrev GrD:Type:=Int×List SeqD×List AndD×List Int
def enGr (s a:TypeId) (x:GrD):List D:=e4 eInt (eSl s enSeq) (eSl a enAnd) (eSl 3 (e1 eInt)) x
def fitGr (m:Nat) (x:GrD):Prop:=x.2.1.length≤m∧(∀ s∈x.2.1,s.2.2.length≤m)∧x.2.2.1.length≤m∧x.2.2.2.length≤m
end Go.Proofs.Ytakohcpfjkcfdaa
