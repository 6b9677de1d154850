/-
  First contracts by abstract walks.
  Conditions: those typed in each theorem.
-/
import Derived.Test.YtakohcpfjkcfdaaV5
/-
  First contracts by abstract walks.
  Conditions: those typed in each theorem.
-/
namespace Go.Proofs.Ytakohcpfjkcfdaa
open Go.RowKit Go.ChangeShapes Go.WideShapes
set_option linter.unusedVariables false
set_option linter.unusedSimpArgs false
theorem inr_con (n lo hi:Int):ConC Try.prog 55 [.d (.int .i64 n),.d (.int .i64 lo),.d (.int .i64 hi)] (.d (.bool (rng n lo hi))):=by
 refine con_of (by kernel_rfl) Try.func55 rfl rfl rfl ?_
 simp[AWp_region_f,AWp_seq,↓condG_true,↓condG_false,condG_true,condG_false,AWp_ret,AOps_nil,AOp_move,AOp_assign,AOp_pick,AOp_binOp,AOp_guard,guardD_some,guardG_bool,nextO_some,pickO,thenA,St.get,St.put,St.eval,ofCell,evalT,abin_leq,abin_geq,pickV,ofX,abinS,rng]
 constructor<;>intro h<;>simp[RetA,resVs,resV,gives,give1,takeC,St.get,h]<;>omega
end Go.Proofs.Ytakohcpfjkcfdaa
/-
  Contracts of the laws' helpers over []int and sequential elements, by abstract walks.
  Conditions: those typed in each theorem.
-/
namespace Go.Proofs.Ytakohcpfjkcfdaa
open Go.RowKit Go.ChangeShapes Go.WideShapes
set_option linter.unusedVariables false
set_option linter.unusedSimpArgs false
def mix {β:Type} (ys:List β) (z:β) (k:Nat):List β:=ys.take k++List.replicate (ys.length - k) z
section
variable {β:Type} {ys:List β} {y z:β} {k:Nat}
theorem mix_len (h:k≤ys.length):(mix ys z k).length=ys.length:=by simp[mix];omega
theorem mix_at (h:k<ys.length):(mix ys z k)[k]? = some z:=by
 unfold mix
 rw[List.getElem?_append_right (by simp;omega),List.length_take,Nat.min_eq_left (by omega),Nat.sub_self,List.getElem?_replicate,if_pos (by omega)]
theorem mix_set (h:ys[k]? = some y):(mix ys z k).set k y=mix ys z (k+1):=by
 obtain⟨hk,rfl⟩:=List.getElem?_eq_some_iff.1 h
 unfold mix
 rw[List.set_append_right _ _ (by simp;omega),List.length_take,Nat.min_eq_left (by omega),Nat.sub_self,take_snoc' h]
 obtain⟨m,hm⟩:∃ m,ys.length - k=m+1:=⟨ys.length - k - 1,by omega⟩
 rw[hm,List.replicate_succ,List.set_cons_zero,show ys.length - (k+1)=m by omega,List.append_assoc]
 rfl
theorem mix_zero:mix ys z 0=List.replicate ys.length z:=by simp[mix]
theorem mix_all:mix ys z ys.length=ys:=by simp[mix]
end
end Go.Proofs.Ytakohcpfjkcfdaa
/-
  Contracts of the laws' helpers over sequential elements, by abstract walks.
  Conditions: those typed in each theorem.
-/
namespace Go.Proofs.Ytakohcpfjkcfdaa
open Go.RowKit Go.ChangeShapes Go.WideShapes
set_option linter.unusedVariables false
set_option linter.unusedSimpArgs false
abbrev SeqD:Type:=Int×Int×List Int
def enSeq (x:SeqD):List D:=e3 eInt eInt (eSl 3 (e1 eInt)) x
end Go.Proofs.Ytakohcpfjkcfdaa
/-
  Contracts of the laws' helpers over slices of sequential elements, by abstract walks.
  Conditions: those typed in each theorem.
-/
namespace Go.Proofs.Ytakohcpfjkcfdaa
open Go.RowKit Go.ChangeShapes Go.WideShapes
set_option linter.unusedVariables false
set_option linter.unusedSimpArgs false
end Go.Proofs.Ytakohcpfjkcfdaa
