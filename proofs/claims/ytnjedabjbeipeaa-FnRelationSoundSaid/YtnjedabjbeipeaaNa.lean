/-
  Ranges, tables and sequential elements, by abstract walks.
  Conditions: those typed in each theorem.
-/
import Derived.Test.YtnjedabjbeipeaaV6
import Derived.Test.YtnjedabjbeipeaaBit
namespace Go.Proofs.Ytnjedabjbeipeaa
open Go.RowKit Go.ChangeShapes Go.WideShapes
set_option linter.unusedVariables false
set_option linter.unusedSimpArgs false
theorem sInr_con (n lo hi:Int):ConC Try.prog 105 [.d (.int .i64 n),.d (.int .i64 lo),.d (.int .i64 hi)] (.d (.bool (rng n lo hi))):=by
 refine con_of (by kernel_rfl) Try.func105 rfl rfl rfl ?_
 simp[AWp_region_f,AWp_seq,↓condG_true,↓condG_false,condG_true,condG_false,AWp_ret,AOps_nil,AOp_move,AOp_assign,AOp_pick,AOp_binOp,AOp_guard,guardD_some,guardG_bool,nextO_some,pickO,thenA,St.get,St.put,St.eval,ofCell,evalT,abin_leq,abin_geq,pickV,ofX,abinS,rng]
 constructor<;>intro h<;>simp[RetA,resVs,resV,gives,give1,takeC,St.get,h]<;>omega
theorem rng_iff {n lo hi:Int}:rng n lo hi=true↔lo≤n∧n≤hi:=by simp[rng]
def belowB (xs:List Int) (n:Int):Bool:=xs.all fun x=>rng x 0 (n - 1)
theorem sBelow_con (xs:List Int) (n:Int) (hl:xs.length≤1099511627776) (hm:0≤n∧n≤1099511627776):ConC Try.prog 102 [.d (eSl 3 (e1 eInt) xs),.d (.int .i64 n)] (.d (.bool (belowB xs n))):=by
 refine con_of (by kernel_rfl) Try.func102 rfl rfl rfl ?_
 simp[AWp_region_f,AWp_seq,AWp_block,AOps_nil,AOp_assign,thenA,St.put,St.eval,ofCell,evalT,ofX,eSl]
 refine aw_loopU [true,true,false,false,false,true,false,false,false,false,false,false,false,false,false,false,false,false,false,false,false,false,false,false,false] (fun k:Nat=>k≤xs.length∧(xs.take k).all (fun x=>rng x 0 (n - 1))=true) (fun k:Nat=>[(5,.d (.int .i64 k))]) (fun k:Nat=>[]) (fun k:Nat=>xs.length - k) 0 ?_ ?_ ?_
 · exact⟨by simp,rfl⟩
 · exact⟨[],by simp[isPin,leSlots,leTmps,leV,le0,presD,ren0,keepT,sets]⟩
 rintro I S μ hI hS hμ k ⟨hk,ha⟩
 by_cases hlt:k<xs.length
 · have hx:xs[k]? = some xs[k]:=List.getElem?_eq_getElem hlt
   have w2:IntKind.i64.wrap ((k:Int)+1)=(k:Int)+1:=wrap_id (by omega) (by omega)
   have hr:rng xs[k] 0 (n - 1)=(decide (0≤xs[k])&&decide (xs[k]≤n - 1)):=rfl
   by_cases h1:xs[k]<0
   · simp[AWp_skip,AWp_region_f,AWp_seq,AWp_cond,condV_bool,↓condG_false,condG_false,↓condB_true,AWp_block,AWp_ret,AOps_nil,AOp_move,AOp_assign,AOp_pick,AOp_binOp,AOp_len,AOp_indexAddr,AOp_load,AOp_guard,guardD_some,guardG_bool,nextO_some,pickO,lenO,idxO,thenA,inBlockA,St.get,St.put,St.eval,ofCell,evalT,abin_lss,pickV,lenV,intOf?,indexV,takeD,loadV,takeC,nat_neg,keepT,sets,e1,eInt,abinS,hlt,h1,RetA,resVs,resV,gives,give1,takeC,St.get,belowB,all_not' (p:=fun x=>rng x 0 (n - 1)) hx (by rw[hr];simp;omega)]
   by_cases h2:xs[k]<n
   · simp[AWp_skip,AWp_region_f,AWp_seq,AWp_cond,condV_bool,↓condG_true,condG_true,↓condB_true,↓condB_false,AWp_block,AOps_nil,AOp_move,AOp_assign,AOp_pick,AOp_binOp,AOp_len,AOp_indexAddr,AOp_load,AOp_guard,guardD_some,guardG_bool,nextO_some,pickO,lenO,idxO,thenA,inBlockA,St.get,St.put,St.eval,ofCell,evalT,abin_add,abin_lss,abin_geq,pickV,lenV,intOf?,indexV,takeD,loadV,nat_neg,keepT,sets,e1,eInt,abinS,hlt,h1,show ¬ n≤xs[k] by omega,w2]
     exact round_of hI hS hμ (k+1) ⟨by omega,by rw[all_snoc' hx,ha,hr];simp;omega⟩ (by omega) ⟨[],by simp[isPin,leSlots,leTmps,leV,le0,presD,ren0,keepT,sets]⟩
   · simp[AWp_skip,AWp_region_f,AWp_seq,AWp_cond,condV_bool,↓condG_true,condG_true,↓condB_true,AWp_block,AWp_ret,AOps_nil,AOp_move,AOp_assign,AOp_pick,AOp_binOp,AOp_len,AOp_indexAddr,AOp_load,AOp_guard,guardD_some,guardG_bool,nextO_some,pickO,lenO,idxO,thenA,inBlockA,St.get,St.put,St.eval,ofCell,evalT,abin_lss,abin_geq,pickV,lenV,intOf?,indexV,takeD,loadV,takeC,nat_neg,keepT,sets,e1,eInt,abinS,hlt,h1,show n≤xs[k] by omega,RetA,resVs,resV,gives,give1,takeC,St.get,belowB,all_not' (p:=fun x=>rng x 0 (n - 1)) hx (by rw[hr];simp;omega)]
 · have hk':k=xs.length:=by omega
   rw[hk',List.take_length] at ha
   simp[AWp_region_f,AWp_seq,AWp_cond,condV_bool,↓condB_false,AWp_exit,AWp_ret,AOps_nil,AOp_move,AOp_assign,AOp_binOp,AOp_len,nextO_some,lenO,thenA,inBlockA,St.get,St.put,St.eval,ofCell,evalT,abin_lss,lenV,takeC,keepT,sets,abinS,hlt,RetA,resVs,resV,gives,give1,takeC,St.get,belowB,ha]
theorem nodesBelow_con' (xs:List Int) (n:Int) (hl:xs.length≤1099511627776) (hm:0≤n∧n≤1099511627776):ConC Try.prog 49 [.d (eSl 3 (e1 eInt) xs),.d (.int .i64 n)] (.d (.bool (belowB xs n))):=nodesBelow_con xs n hl hm
def fullT (n:Int):Int:=if n=0 then 1 else if n=1 then 3 else if n=2 then 15 else if n=3 then 255 else 65535
def tableOkB (n b:Int):Bool:=rng n 0 4&&rng b 0 (fullT n)
theorem five {n:Int} (h:rng n 0 4=true):n=0∨n=1∨n=2∨n=3∨n=4:=by have:=rng_iff.1 h;omega
theorem tableOk_le {n:Nat} {b:Int} (h:tableOkB n b=true):n≤4:=by
 simp only[tableOkB,Bool.and_eq_true] at h
 have:=rng_iff.1 h.1
 omega
theorem iTableOk_con (n b:Int):ConC Try.prog 50 [.agg [.int .i64 n,.int .i64 b]] (.d (.bool (tableOkB n b))):=by
 refine con_of (by kernel_rfl) Try.func50 rfl rfl rfl ?_
 simp[AWp_region_f,AWp_seq,AOps_nil,AOp_assign,AOp_load,AOp_fieldAddr,AOp_box,AOp_call,nextO_some,thenA,St.get,St.put,St.eval,ofCell,evalT,takeV,loadV,fieldAddrV,ofX,presD,pres,presAll,cellsV,V.cell]
 refine call_step (inr_con _ _ _) ?_
 simp only[afterCall,inst,inst1,instD]
 simp[↓condG_true,↓condG_false,condG_true,condG_false,AWp_ret,AOps_nil,AOp_move,AOp_assign,AOp_pick,AOp_binOp,AOp_convert,AOp_load,AOp_fieldAddr,AOp_guard,guardD_some,guardG_bool,nextO_some,pickO,convO,thenA,St.get,St.put,St.eval,ofCell,evalT,abin_shlu,pickV,takeV,loadV,fieldAddrV,abinS]
 rcases Bool.eq_false_or_eq_true (rng n 0 4) with h|h
 case inr=>simp[↓condG_false,condG_false,St.get,takeC,h,RetA,resVs,resV,gives,give1,takeC,St.get,tableOkB]
 rcases five h with rfl|rfl|rfl|rfl|rfl<;>simp[↓condG_true,condG_true,AOp_binOp,AOp_call,AOp_guard,guardD_some,guardG_bool,nextO_some,St.get,St.put,St.eval,ofCell,abin_sub,abin_shl,presD,pres,presAll,abinS,h,u64_id,(by decide:shl64 1 1=2),(by decide:shl64 1 2=4),(by decide:shl64 1 4=16),(by decide:shl64 1 8=256),(by decide:shl64 1 16=65536)]
 all_goals
  refine call_step (inr_con _ _ _) ?_
  simp only[afterCall,inst,inst1,instD]
  simp[AWp_ret,AOps_nil,AOp_assign,AOp_pick,nextO_some,pickO,thenA,St.get,St.put,St.eval,ofCell,evalT,pickV,takeC,RetA,resVs,resV,gives,give1,takeC,St.get,tableOkB,h,fullT,wrap_id]
theorem sFull_con (n:Int) (h:rng n 0 4=true):ConC Try.prog 137 [.d (.int .i64 n)] (.d (.int .i64 (fullT n))):=by
 rcases five h with rfl|rfl|rfl|rfl|rfl
 all_goals
  refine con_of (by kernel_rfl) Try.func137 rfl rfl rfl ?_
  simp[AWp_region_f,AWp_seq,AWp_ret,AOps_nil,AOp_move,AOp_assign,AOp_binOp,nextO_some,thenA,St.get,St.put,St.eval,ofCell,evalT,abin_sub,abin_shl,abin_shlu,ofX,takeC,abinS,u64_id,(by decide:shl64 1 1=2),(by decide:shl64 1 2=4),(by decide:shl64 1 4=16),(by decide:shl64 1 8=256),(by decide:shl64 1 16=65536),RetA,resVs,resV,gives,give1,takeC,St.get,fullT,wrap_id]
theorem sTableOk_con (n b:Int):ConC Try.prog 101 [.agg [.int .i64 n,.int .i64 b]] (.d (.bool (tableOkB n b))):=by
 refine con_of (by kernel_rfl) Try.func101 rfl rfl rfl ?_
 simp[AWp_region_t,AWp_region_f,AWp_seq,AOps_nil,AOp_assign,AOp_load,AOp_fieldAddr,AOp_box,AOp_call,nextO_some,thenA,St.get,St.put,St.eval,ofCell,evalT,takeV,loadV,fieldAddrV,ofX,presD,pres,presAll,cellsV,V.cell]
 refine⟨by kernel_rfl,?_⟩
 refine call_step (sInr_con _ _ _) ?_
 simp only[afterCall,inst,inst1,instD]
 simp[↓condG_true,↓condG_false,condG_true,condG_false,AWp_ret,AOps_nil,AOp_move,AOp_assign,AOp_pick,AOp_binOp,AOp_load,AOp_fieldAddr,AOp_call,AOp_guard,guardD_some,guardG_bool,nextO_some,pickO,thenA,St.get,St.put,St.eval,ofCell,evalT,abin_geq,pickV,takeV,loadV,fieldAddrV,presD,pres,presAll,abinS]
 rcases Bool.eq_false_or_eq_true (rng n 0 4) with h|h
 case inr=>simp[↓condG_false,condG_false,St.get,takeC,h,RetA,resVs,resV,gives,give1,takeC,St.get,tableOkB]
 by_cases hb:0≤b
 · have hr:rng b 0 (fullT n)=decide (b≤fullT n):=by simp[rng,hb]
   simp[↓condG_true,condG_true,h,hb]
   refine call_step (sFull_con n h) ?_
   simp only[afterCall,inst,inst1,instD]
   simp[↓condG_true,condG_true,AWp_ret,AOps_nil,AOp_assign,AOp_pick,AOp_binOp,AOp_guard,guardD_some,guardG_bool,nextO_some,pickO,thenA,St.get,St.put,St.eval,ofCell,evalT,abin_leq,pickV,takeC,abinS,RetA,resVs,resV,gives,give1,takeC,St.get,tableOkB,h,hr]
 · have hr:rng b 0 (fullT n)=false:=by simp[rng];omega
   simp[↓condG_true,↓condG_false,condG_true,condG_false,St.get,takeC,h,hb,RetA,resVs,resV,gives,give1,takeC,St.get,tableOkB,hr]
def seqOkB (x:SeqD):Bool :=
 if x.1=0 then rng x.2.1 0 1&&decide (x.2.2.length=1) else if x.1=1 then rng x.2.1 0 31&&decide (x.2.2.length=4) else false
theorem seqOk_con (x:SeqD):ConC Try.prog 90 [.agg (enSeq x)] (.d (.bool (seqOkB x))):=by
 refine con_of (by kernel_rfl) Try.func90 rfl rfl rfl ?_
 simp[AWp_skip,AWp_region_f,AWp_seq,AWp_cond,condV_bool,condB,AWp_block,AWp_ret,AOps_nil,AOp_assign,AOp_binOp,AOp_load,AOp_fieldAddr,AOp_box,AOp_call,nextO_some,thenA,inBlockA,St.get,St.put,St.eval,ofCell,evalT,abin_eql,takeV,loadV,fieldAddrV,ofX,presD,pres,presAll,cellsV,V.cell,eSl,e3,eInt,abinS,enSeq]
 by_cases h0:x.1=0
 · simp[h0]
   refine call_step (inr_con _ _ _) ?_
   simp only[afterCall,inst,inst1,instD]
   simp[↓condG_true,↓condG_false,condG_true,condG_false,AWp_ret,AOps_nil,AOp_move,AOp_assign,AOp_pick,AOp_binOp,AOp_len,AOp_load,AOp_fieldAddr,AOp_guard,guardD_some,guardG_bool,nextO_some,pickO,lenO,thenA,inBlockA,St.get,St.put,St.eval,ofCell,evalT,abin_eql,pickV,lenV,takeV,loadV,fieldAddrV,abinS]
   rcases Bool.eq_false_or_eq_true (rng x.2.1 0 1) with h|h<;>simp[↓condG_true,↓condG_false,condG_true,condG_false,St.get,takeC,h,RetA,resVs,resV,gives,give1,takeC,St.get,seqOkB,h0]
   by_cases h2:x.2.2.length=1<;>simp[h2]<;>omega
 by_cases h1:x.1=1
 · simp[h1]
   refine call_step (inr_con _ _ _) ?_
   simp only[afterCall,inst,inst1,instD]
   simp[↓condG_true,↓condG_false,condG_true,condG_false,AWp_ret,AOps_nil,AOp_move,AOp_assign,AOp_pick,AOp_binOp,AOp_len,AOp_load,AOp_fieldAddr,AOp_guard,guardD_some,guardG_bool,nextO_some,pickO,lenO,thenA,inBlockA,St.get,St.put,St.eval,ofCell,evalT,abin_eql,pickV,lenV,takeV,loadV,fieldAddrV,abinS]
   rcases Bool.eq_false_or_eq_true (rng x.2.1 0 31) with h|h<;>simp[↓condG_true,↓condG_false,condG_true,condG_false,St.get,takeC,h,RetA,resVs,resV,gives,give1,takeC,St.get,seqOkB,h1]
   by_cases h2:x.2.2.length=4<;>simp[h2]<;>omega
 · simp[St.get,takeC,h0,h1,RetA,resVs,resV,gives,give1,takeC,St.get,seqOkB]
end Go.Proofs.Ytnjedabjbeipeaa
/-
  Contracts of the laws' helpers over graphs, by abstract walks.
  Conditions: those typed in each theorem.
-/
namespace Go.Proofs.Ytnjedabjbeipeaa
open Go.RowKit Go.ChangeShapes Go.WideShapes
set_option linter.unusedVariables false
set_option linter.unusedSimpArgs false
attribute [local simp ↓] condG_true condG_false condB_true condB_false
attribute [local simp] AWp_skip AWp_region_t AWp_region_d AWp_region_f still_mk AWp_seq AWp_cond condV_bool condB AWp_block AWp_exit AWp_ret
attribute [local simp] AOps_nil AOp_move AOp_assign AOp_pick AOp_binOp AOp_unOp AOp_convert AOp_len AOp_max AOp_min AOp_indexAddr AOp_load
attribute [local simp] AOp_fieldAddr AOp_field AOp_extract AOp_nilCheck AOp_build AOp_alloc AOp_box AOp_call AOp_store AOp_append AOp_buildSlice nextB_some
attribute [local simp] nextB_none adoptO adoptC AOp_makeSlice AOp_slice AOp_makeFunc AOp_guard guardD_some guardG_bool guardG_undef nextO_some nextS_some
attribute [local simp] nextZ_some nextL_some nextM_some nextT_some sliceO sliceL sliceT partO partV boundV funcO pickO
attribute [local simp] convO lenO maxO minO idxO extO nilO buildO litO litC makeO chunks
attribute [local simp] fillV placeOf thenA inBlockA St.get St.put St.eval ofCell evalT abin_add abin_sub abin_mul
attribute [local simp] abin_quo abin_rem abin_and abin_or abin_xor abin_andNot abin_shl abin_shr abin_shlu abin_eql abin_eqp abin_neq
attribute [local simp] abin_lss abin_leq abin_gtr abin_geq abin_eqlb abin_neqb aun pickV lenV intOf? indexV takeD
attribute [local simp] takeV loadV fieldAddrV fieldV ofX presD presDs pres presAll cellsV V.cell storeV
attribute [local simp] freezeC putAt kill takeC plains plainV scalarV nat_neg keepT sets eSl e1
attribute [local simp] e2 e3 e4 eInt eBool abinS_d abinS_agg abinS nilEq abin_eqb AOp_makeMap AOp_lookup
attribute [local simp] AOp_mapUpdate lookG_some updG_some mapV kyOf vlOf lookV vlV buildA afterCall inst inst1
attribute [local simp] inst1s instD instDs RetA resVs resV gives give1 give1s Le isPin leSlots
attribute [local simp] leS leTmps leV le0 le0s ren ren0 renS ren0s frame enterT afterT_some
attribute [local simp] afterC_some lives Slot.live arrsOk viewV view0 renT rens renSs setAll List.range'_succ RetT
attribute [local simp] RetW joinV leT AOpsE_nil AOpsE_cons AOpsT_nil AOpsT_cons isCallT isFnO callOf callVC_fn condC_true
attribute [local simp] condC_false beginT_mk beginX_mk AOpsX_zero thenT_mk pickE pickT isT loose namesOf namesV names1
attribute [local simp] names0 stableN sameAt Op.operands Call.operands
abbrev AndD:Type:=Int×Int
def enAnd (x:AndD):List D:=e2 eInt eInt x
abbrev GrD:Type:=Int×List SeqD×List AndD×List Int
def enGr (s a:TypeId) (x:GrD):List D:=e4 eInt (eSl s enSeq) (eSl a enAnd) (eSl 3 (e1 eInt)) x
def fitGr (m:Nat) (x:GrD):Prop:=x.2.1.length≤m∧(∀ s∈x.2.1,s.2.2.length≤m)∧x.2.2.1.length≤m∧x.2.2.2.length≤m
end Go.Proofs.Ytnjedabjbeipeaa
