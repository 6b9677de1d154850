/-
  Ranges, tables and sequential elements, by abstract walks.
  Conditions: those typed in each theorem.
-/
import Derived.Test.YtakohcpfjkcfdaaV6
import Derived.Test.YtakohcpfjkcfdaaBit
namespace Go.Proofs.Ytakohcpfjkcfdaa
open Go.RowKit Go.ChangeShapes Go.WideShapes
set_option linter.unusedVariables false
set_option linter.unusedSimpArgs false
theorem sInr_con (n lo hi:Int):ConC Try.prog 29 [.d (.int .i64 n),.d (.int .i64 lo),.d (.int .i64 hi)] (.d (.bool (rng n lo hi))):=by
 refine con_of (by kernel_rfl) Try.func29 rfl rfl rfl ?_
 simp[AWp_region_f,AWp_seq,↓condG_true,↓condG_false,condG_true,condG_false,AWp_ret,AOps_nil,AOp_move,AOp_assign,AOp_pick,AOp_binOp,AOp_guard,guardD_some,guardG_bool,nextO_some,pickO,thenA,St.get,St.put,St.eval,ofCell,evalT,abin_leq,abin_geq,pickV,ofX,abinS,rng]
 constructor<;>intro h<;>simp[RetA,resVs,resV,gives,give1,takeC,St.get,h]<;>omega
theorem rng_iff {n lo hi:Int}:rng n lo hi=true↔lo≤n∧n≤hi:=by simp[rng]
def belowB (xs:List Int) (n:Int):Bool:=xs.all fun x=>rng x 0 (n - 1)
def seqOkB (x:SeqD):Bool :=
 if x.1=0 then rng x.2.1 0 1&&decide (x.2.2.length=1) else if x.1=1 then rng x.2.1 0 31&&decide (x.2.2.length=4) else false
theorem seqOk_con (x:SeqD):ConC Try.prog 53 [.agg (enSeq x)] (.d (.bool (seqOkB x))):=by
 refine con_of (by kernel_rfl) Try.func53 rfl rfl rfl ?_
 simp[AWp_skip,AWp_region_f,AWp_seq,AWp_cond,condV_bool,condB,AWp_block,AWp_ret,AOps_nil,AOp_assign,AOp_binOp,AOp_load,AOp_fieldAddr,AOp_box,AOp_call,nextO_some,thenA,inBlockA,St.get,St.put,St.eval,ofCell,evalT,abin_eql,takeV,loadV,fieldAddrV,ofX,presD,pres,presAll,cellsV,V.cell,eSl,e3,eInt,abinS,enSeq]
 by_cases h0:x.1=0
 · simp[h0]
   refine call_step (inr_con _ _ _) ?_
   simp only[afterCall,inst,inst1,instD]
   simp[↓condG_true,↓condG_false,condG_true,condG_false,AWp_ret,AOps_nil,AOp_move,AOp_assign,AOp_pick,AOp_binOp,AOp_len,AOp_load,AOp_fieldAddr,AOp_guard,guardD_some,guardG_bool,nextO_some,pickO,lenO,thenA,inBlockA,St.get,St.put,St.eval,ofCell,evalT,abin_eql,pickV,lenV,takeV,loadV,fieldAddrV,abinS]
   rcases Bool.eq_false_or_eq_true (rng x.2.1 0 1) with h|h<;>simp[↓condG_true,↓condG_false,condG_true,condG_false,St.get,takeC,h,RetA,resVs,resV,gives,give1,takeC,St.get,seqOkB,h0]
   by_cases h2:x.2.2.length=1<;>simp[h2]<;>omega
 by_cases h1:x.1=1
 · simp[h1]
   refine call_step (inr_con _ _ _) ?_
   simp only[afterCall,inst,inst1,instD]
   simp[↓condG_true,↓condG_false,condG_true,condG_false,AWp_ret,AOps_nil,AOp_move,AOp_assign,AOp_pick,AOp_binOp,AOp_len,AOp_load,AOp_fieldAddr,AOp_guard,guardD_some,guardG_bool,nextO_some,pickO,lenO,thenA,inBlockA,St.get,St.put,St.eval,ofCell,evalT,abin_eql,pickV,lenV,takeV,loadV,fieldAddrV,abinS]
   rcases Bool.eq_false_or_eq_true (rng x.2.1 0 31) with h|h<;>simp[↓condG_true,↓condG_false,condG_true,condG_false,St.get,takeC,h,RetA,resVs,resV,gives,give1,takeC,St.get,seqOkB,h1]
   by_cases h2:x.2.2.length=4<;>simp[h2]<;>omega
 · simp[St.get,takeC,h0,h1,RetA,resVs,resV,gives,give1,takeC,St.get,seqOkB]
end Go.Proofs.Ytakohcpfjkcfdaa
