/-
  Numbers and their bits. Plain lemmas, about no function of the program.
  Conditions: those typed in each theorem.
-/
import Derived.Test.YtakohcpfjkcfdaaV5
import Derived.IntWalk
namespace Go.Proofs.Ytakohcpfjkcfdaa
open Go.RowKit Go.ChangeShapes Go.WideShapes
set_option linter.unusedVariables false
theorem ofInt_toNat (a:Int):(BitVec.ofInt 64 a).toNat=(a % 18446744073709551616).toNat:=by simp
theorem and64_one (a:Int):and64 a 1=a % 2:=by
 unfold and64
 rw[BitVec.toNat_and,ofInt_toNat,ofInt_toNat,show ((1:Int) % 18446744073709551616).toNat=1 from rfl,Nat.and_one_is_mod,wrap_id (by omega) (by omega)]
 omega
theorem toNat_of_small {a:Int} (h0:0≤a) (h1:a<18446744073709551616):(BitVec.ofInt 64 a).toNat=a.toNat:=by
 rw[ofInt_toNat,Int.emod_eq_of_lt h0 h1]
def flip (x:Int):Int:=if x % 2=0 then x+1 else x - 1
theorem xor64_one {a:Int} (h0:0≤a) (h1:a<4611686018427387904):xor64 a 1=flip a:=by
 unfold xor64 flip
 rw[BitVec.toNat_xor,toNat_of_small h0 (by omega),show (BitVec.ofInt 64 1).toNat=1 from rfl]
 obtain⟨n,rfl⟩:∃ n:Nat,a=n:=⟨a.toNat,by omega⟩
 rw[Int.toNat_natCast]
 have h:=Nat.div_add_mod n 2
 have h1:=Nat.div_add_mod (n ^^^ 1) 2
 have h2:(n ^^^ 1) / 2=n / 2:=by rw[Nat.xor_div_two];simp
 have h3:=Nat.xor_mod_two_eq_one (a:=n) (b:=1)
 rw[wrap_id (by omega) (by omega)]
 split<;>omega
theorem xor64_zero {a:Int} (h0:0≤a) (h1:a<4611686018427387904):xor64 a 0=a:=by
 unfold xor64
 rw[BitVec.toNat_xor,toNat_of_small h0 (by omega),show (BitVec.ofInt 64 0).toNat=0 from rfl,Nat.xor_zero,wrap_id (by omega) (by omega)]
 omega
theorem quo2 {a:Int} (h0:0≤a) (h1:a≤9223372036854775807):IntKind.i64.wrap (a.tdiv 2)=a / 2:=by
 rw[Int.tdiv_eq_ediv_of_nonneg h0,wrap_id (by omega) (by omega)]
end Go.Proofs.Ytakohcpfjkcfdaa
