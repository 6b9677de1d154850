/-
  First contracts by abstract walks.
  Conditions: those typed in each theorem.
-/
import Derived.Test.YtakohcpfjkcfdaaV5
/-
  First contracts by abstract walks.
  Conditions: those typed in each theorem.
-/
namespace Go.Proofs.Ytakohcpfjkcfdaa
open Go.RowKit Go.ChangeShapes Go.WideShapes
set_option linter.unusedVariables false
set_option linter.unusedSimpArgs false
theorem inr_con (n lo hi:Int):ConC Try.prog 55 [.d (.int .i64 n),.d (.int .i64 lo),.d (.int .i64 hi)] (.d (.bool (rng n lo hi))):=by
 refine con_of (by kernel_rfl) Try.func55 rfl rfl rfl ?_
 simp[AWp_region_f,AWp_seq,↓condG_true,↓condG_false,condG_true,condG_false,AWp_ret,AOps_nil,AOp_move,AOp_assign,AOp_pick,AOp_binOp,AOp_guard,guardD_some,guardG_bool,nextO_some,pickO,thenA,St.get,St.put,St.eval,ofCell,evalT,abin_leq,abin_geq,pickV,ofX,abinS,rng]
 constructor<;>intro h<;>simp[RetA,resVs,resV,gives,give1,takeC,St.get,h]<;>omega
end Go.Proofs.Ytakohcpfjkcfdaa
/-
  Contracts of the laws' helpers over []int and sequential elements, by abstract walks.
  Conditions: those typed in each theorem.
-/
namespace Go.Proofs.Ytakohcpfjkcfdaa
open Go.RowKit Go.ChangeShapes Go.WideShapes
set_option linter.unusedVariables false
set_option linter.unusedSimpArgs false
section
variable {β:Type} {ys:List β} {y z:β} {k:Nat}
end
end Go.Proofs.Ytakohcpfjkcfdaa
/-
  Contracts of the laws' helpers over sequential elements, by abstract walks.
  Conditions: those typed in each theorem.
-/
namespace Go.Proofs.Ytakohcpfjkcfdaa
open Go.RowKit Go.ChangeShapes Go.WideShapes
set_option linter.unusedVariables false
set_option linter.unusedSimpArgs false
abbrev SeqD:Type:=Int×Int×List Int
def enSeq (x:SeqD):List D:=e3 eInt eInt (eSl 3 (e1 eInt)) x
end Go.Proofs.Ytakohcpfjkcfdaa
/-
  Contracts of the laws' helpers over slices of sequential elements, by abstract walks.
  Conditions: those typed in each theorem.
-/
namespace Go.Proofs.Ytakohcpfjkcfdaa
open Go.RowKit Go.ChangeShapes Go.WideShapes
set_option linter.unusedVariables false
set_option linter.unusedSimpArgs false
end Go.Proofs.Ytakohcpfjkcfdaa
