/-
  Ranges, tables and sequential elements, by abstract walks.
  Conditions: those typed in each theorem.
-/
import Derived.Test.YtnjedabjbeipeaaV6
import Derived.Test.YtnjedabjbeipeaaBit
namespace Go.Proofs.Ytnjedabjbeipeaa
open Go.RowKit Go.ChangeShapes Go.WideShapes
set_option linter.unusedVariables false
set_option linter.unusedSimpArgs false
theorem rng_iff {n lo hi:Int}:rng n lo hi=true↔lo≤n∧n≤hi:=by simp[rng]
def belowB (xs:List Int) (n:Int):Bool:=xs.all fun x=>rng x 0 (n - 1)
theorem nodesBelow_con' (xs:List Int) (n:Int) (hl:xs.length≤1099511627776) (hm:0≤n∧n≤1099511627776):ConC Try.prog 49 [.d (eSl 3 (e1 eInt) xs),.d (.int .i64 n)] (.d (.bool (belowB xs n))):=nodesBelow_con xs n hl hm
def fullT (n:Int):Int:=if n=0 then 1 else if n=1 then 3 else if n=2 then 15 else if n=3 then 255 else 65535
def tableOkB (n b:Int):Bool:=rng n 0 4&&rng b 0 (fullT n)
theorem five {n:Int} (h:rng n 0 4=true):n=0∨n=1∨n=2∨n=3∨n=4:=by have:=rng_iff.1 h;omega
theorem tableOk_le {n:Nat} {b:Int} (h:tableOkB n b=true):n≤4:=by
 simp only[tableOkB,Bool.and_eq_true] at h
 have:=rng_iff.1 h.1
 omega
theorem iTableOk_con (n b:Int):ConC Try.prog 50 [.agg [.int .i64 n,.int .i64 b]] (.d (.bool (tableOkB n b))):=by
 refine con_of (by kernel_rfl) Try.func50 rfl rfl rfl ?_
 simp[AWp_region_f,AWp_seq,AOps_nil,AOp_assign,AOp_load,AOp_fieldAddr,AOp_box,AOp_call,nextO_some,thenA,St.get,St.put,St.eval,ofCell,evalT,takeV,loadV,fieldAddrV,ofX,presD,pres,presAll,cellsV,V.cell]
 refine call_step (inr_con _ _ _) ?_
 simp only[afterCall,inst,inst1,instD]
 simp[↓condG_true,↓condG_false,condG_true,condG_false,AWp_ret,AOps_nil,AOp_move,AOp_assign,AOp_pick,AOp_binOp,AOp_convert,AOp_load,AOp_fieldAddr,AOp_guard,guardD_some,guardG_bool,nextO_some,pickO,convO,thenA,St.get,St.put,St.eval,ofCell,evalT,abin_shlu,pickV,takeV,loadV,fieldAddrV,abinS]
 rcases Bool.eq_false_or_eq_true (rng n 0 4) with h|h
 case inr=>simp[↓condG_false,condG_false,St.get,takeC,h,RetA,resVs,resV,gives,give1,takeC,St.get,tableOkB]
 rcases five h with rfl|rfl|rfl|rfl|rfl<;>simp[↓condG_true,condG_true,AOp_binOp,AOp_call,AOp_guard,guardD_some,guardG_bool,nextO_some,St.get,St.put,St.eval,ofCell,abin_sub,abin_shl,presD,pres,presAll,abinS,h,u64_id,(by decide:shl64 1 1=2),(by decide:shl64 1 2=4),(by decide:shl64 1 4=16),(by decide:shl64 1 8=256),(by decide:shl64 1 16=65536)]
 all_goals
  refine call_step (inr_con _ _ _) ?_
  simp only[afterCall,inst,inst1,instD]
  simp[AWp_ret,AOps_nil,AOp_assign,AOp_pick,nextO_some,pickO,thenA,St.get,St.put,St.eval,ofCell,evalT,pickV,takeC,RetA,resVs,resV,gives,give1,takeC,St.get,tableOkB,h,fullT,wrap_id]
def seqOkB (x:SeqD):Bool :=
 if x.1=0 then rng x.2.1 0 1&&decide (x.2.2.length=1) else if x.1=1 then rng x.2.1 0 31&&decide (x.2.2.length=4) else false
theorem seqOk_con (x:SeqD):ConC Try.prog 90 [.agg (enSeq x)] (.d (.bool (seqOkB x))):=by
 refine con_of (by kernel_rfl) Try.func90 rfl rfl rfl ?_
 simp[AWp_skip,AWp_region_f,AWp_seq,AWp_cond,condV_bool,condB,AWp_block,AWp_ret,AOps_nil,AOp_assign,AOp_binOp,AOp_load,AOp_fieldAddr,AOp_box,AOp_call,nextO_some,thenA,inBlockA,St.get,St.put,St.eval,ofCell,evalT,abin_eql,takeV,loadV,fieldAddrV,ofX,presD,pres,presAll,cellsV,V.cell,eSl,e3,eInt,abinS,enSeq]
 by_cases h0:x.1=0
 · simp[h0]
   refine call_step (inr_con _ _ _) ?_
   simp only[afterCall,inst,inst1,instD]
   simp[↓condG_true,↓condG_false,condG_true,condG_false,AWp_ret,AOps_nil,AOp_move,AOp_assign,AOp_pick,AOp_binOp,AOp_len,AOp_load,AOp_fieldAddr,AOp_guard,guardD_some,guardG_bool,nextO_some,pickO,lenO,thenA,inBlockA,St.get,St.put,St.eval,ofCell,evalT,abin_eql,pickV,lenV,takeV,loadV,fieldAddrV,abinS]
   rcases Bool.eq_false_or_eq_true (rng x.2.1 0 1) with h|h<;>simp[↓condG_true,↓condG_false,condG_true,condG_false,St.get,takeC,h,RetA,resVs,resV,gives,give1,takeC,St.get,seqOkB,h0]
   by_cases h2:x.2.2.length=1<;>simp[h2]<;>omega
 by_cases h1:x.1=1
 · simp[h1]
   refine call_step (inr_con _ _ _) ?_
   simp only[afterCall,inst,inst1,instD]
   simp[↓condG_true,↓condG_false,condG_true,condG_false,AWp_ret,AOps_nil,AOp_move,AOp_assign,AOp_pick,AOp_binOp,AOp_len,AOp_load,AOp_fieldAddr,AOp_guard,guardD_some,guardG_bool,nextO_some,pickO,lenO,thenA,inBlockA,St.get,St.put,St.eval,ofCell,evalT,abin_eql,pickV,lenV,takeV,loadV,fieldAddrV,abinS]
   rcases Bool.eq_false_or_eq_true (rng x.2.1 0 31) with h|h<;>simp[↓condG_true,↓condG_false,condG_true,condG_false,St.get,takeC,h,RetA,resVs,resV,gives,give1,takeC,St.get,seqOkB,h1]
   by_cases h2:x.2.2.length=4<;>simp[h2]<;>omega
 · simp[St.get,takeC,h0,h1,RetA,resVs,resV,gives,give1,takeC,St.get,seqOkB]
end Go.Proofs.Ytnjedabjbeipeaa
