/-
  Numbers and their bits. Plain lemmas, about no function of the program.
  Conditions: those typed in each theorem.
-/
import Derived.Test.YtklhofpjjbfckaaV5
import Derived.IntWalk
import Derived.Test.YtklhofpjjbfckaaV6
namespace Go.Proofs.Ytklhofpjjbfckaa
open Go.RowKit Go.ChangeShapes Go.WideShapes
set_option linter.unusedVariables false
theorem quo2 {a:Int} (h0:0≤a) (h1:a≤9223372036854775807):IntKind.i64.wrap (a.tdiv 2)=a / 2:=by
 rw[Int.tdiv_eq_ediv_of_nonneg h0,wrap_id (by omega) (by omega)]
end Go.Proofs.Ytklhofpjjbfckaa
/-
  Ranges, tables and sequential elements, by abstract walks.
  Conditions: those typed in each theorem.
-/
namespace Go.Proofs.Ytklhofpjjbfckaa
open Go.RowKit Go.ChangeShapes Go.WideShapes
set_option linter.unusedVariables false
set_option linter.unusedSimpArgs false
theorem szGo_le {α:Type} {f:α→Int→Int} (hf:∀ x l,0≤l→f x l≤l):∀ (xs:List α) (l:Int),0≤l→szGo f xs l≤l
 | [],l,h=>Int.le_refl _
 | x::xs,l,h=>by
   show (if f x l<0 then -1 else szGo f xs (f x l))≤l
   split
   · omega
   · exact Int.le_trans (szGo_le hf xs _ (by omega)) (hf x l h)
theorem szS_le {α:Type} {f:α→Int→Int} (hf:∀ x l,0≤l→f x l≤l) (xs:List α) (l:Int) (h:0≤l):szS f xs l≤l:=by
 unfold szS
 split
 · omega
 · exact Int.le_trans (szGo_le hf xs _ (by omega)) (by omega)
theorem szSeqL_le (x:SeqD) (l:Int) (h:0≤l):szSeqL x l≤l:=by unfold szSeqL szL;split<;>omega
theorem sInr_con (n lo hi:Int):ConC Try.prog 112 [.d (.int .i64 n),.d (.int .i64 lo),.d (.int .i64 hi)] (.d (.bool (rng n lo hi))):=by
 refine con_of (by kernel_rfl) Try.func112 rfl rfl rfl ?_
 simp[AWp_region_f,AWp_seq,↓condG_true,↓condG_false,condG_true,condG_false,AWp_ret,AOps_nil,AOp_move,AOp_assign,AOp_pick,AOp_binOp,AOp_guard,guardD_some,guardG_bool,nextO_some,pickO,thenA,St.get,St.put,St.eval,ofCell,evalT,abin_leq,abin_geq,pickV,ofX,abinS,rng]
 constructor<;>intro h<;>simp[RetA,resVs,resV,gives,give1,takeC,St.get,h]<;>omega
theorem rng_iff {n lo hi:Int}:rng n lo hi=true↔lo≤n∧n≤hi:=by simp[rng]
def belowB (xs:List Int) (n:Int):Bool:=xs.all fun x=>rng x 0 (n - 1)
def seqOkB (x:SeqD):Bool :=
 if x.1=0 then rng x.2.1 0 1&&decide (x.2.2.length=1) else if x.1=1 then rng x.2.1 0 31&&decide (x.2.2.length=4) else false
theorem seqOk_con (x:SeqD):ConC Try.prog 159 [.agg (enSeq x)] (.d (.bool (seqOkB x))):=by
 refine con_of (by kernel_rfl) Try.func159 rfl rfl rfl ?_
 simp[AWp_skip,AWp_region_f,AWp_seq,AWp_cond,condV_bool,condB,AWp_block,AWp_ret,AOps_nil,AOp_assign,AOp_binOp,AOp_load,AOp_fieldAddr,AOp_box,AOp_call,nextO_some,thenA,inBlockA,St.get,St.put,St.eval,ofCell,evalT,abin_eql,takeV,loadV,fieldAddrV,ofX,presD,pres,presAll,cellsV,V.cell,eSl,e3,eInt,abinS,enSeq]
 by_cases h0:x.1=0
 · simp[h0]
   refine call_step (inr_con _ _ _) ?_
   simp only[afterCall,inst,inst1,instD]
   simp[↓condG_true,↓condG_false,condG_true,condG_false,AWp_ret,AOps_nil,AOp_move,AOp_assign,AOp_pick,AOp_binOp,AOp_len,AOp_load,AOp_fieldAddr,AOp_guard,guardD_some,guardG_bool,nextO_some,pickO,lenO,thenA,inBlockA,St.get,St.put,St.eval,ofCell,evalT,abin_eql,pickV,lenV,takeV,loadV,fieldAddrV,abinS]
   rcases Bool.eq_false_or_eq_true (rng x.2.1 0 1) with h|h<;>simp[↓condG_true,↓condG_false,condG_true,condG_false,St.get,takeC,h,RetA,resVs,resV,gives,give1,takeC,St.get,seqOkB,h0]
   by_cases h2:x.2.2.length=1<;>simp[h2]<;>omega
 by_cases h1:x.1=1
 · simp[h1]
   refine call_step (inr_con _ _ _) ?_
   simp only[afterCall,inst,inst1,instD]
   simp[↓condG_true,↓condG_false,condG_true,condG_false,AWp_ret,AOps_nil,AOp_move,AOp_assign,AOp_pick,AOp_binOp,AOp_len,AOp_load,AOp_fieldAddr,AOp_guard,guardD_some,guardG_bool,nextO_some,pickO,lenO,thenA,inBlockA,St.get,St.put,St.eval,ofCell,evalT,abin_eql,pickV,lenV,takeV,loadV,fieldAddrV,abinS]
   rcases Bool.eq_false_or_eq_true (rng x.2.1 0 31) with h|h<;>simp[↓condG_true,↓condG_false,condG_true,condG_false,St.get,takeC,h,RetA,resVs,resV,gives,give1,takeC,St.get,seqOkB,h1]
   by_cases h2:x.2.2.length=4<;>simp[h2]<;>omega
 · simp[St.get,takeC,h0,h1,RetA,resVs,resV,gives,give1,takeC,St.get,seqOkB]
end Go.Proofs.Ytklhofpjjbfckaa
/-
  Contracts of the laws' helpers over look-up tables, by abstract walks. Written by mk_vt.py from those over sequential elements.
  Conditions: those typed in each theorem.
-/
namespace Go.Proofs.Ytklhofpjjbfckaa
open Go.RowKit Go.ChangeShapes Go.WideShapes
set_option linter.unusedVariables false
set_option linter.unusedSimpArgs false
end Go.Proofs.Ytklhofpjjbfckaa
/-
  Contracts of the laws' helpers over networks of look-up tables, by abstract walks.
  Conditions: those typed in each theorem.
-/
namespace Go.Proofs.Ytklhofpjjbfckaa
open Go.RowKit Go.ChangeShapes Go.WideShapes
set_option linter.unusedVariables false
set_option linter.unusedSimpArgs false
end Go.Proofs.Ytklhofpjjbfckaa
