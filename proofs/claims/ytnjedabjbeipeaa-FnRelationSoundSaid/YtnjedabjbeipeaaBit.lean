/-
  Numbers and their bits. Plain lemmas, about no function of the program.
  Conditions: those typed in each theorem.
-/
import Derived.Test.YtnjedabjbeipeaaV5
import Derived.IntWalk
namespace Go.Proofs.Ytnjedabjbeipeaa
open Go.RowKit Go.ChangeShapes Go.WideShapes
set_option linter.unusedVariables false
theorem ofInt_toNat (a:Int):(BitVec.ofInt 64 a).toNat=(a % 18446744073709551616).toNat:=by simp
theorem and64_one (a:Int):and64 a 1=a % 2:=by
 unfold and64
 rw[BitVec.toNat_and,ofInt_toNat,ofInt_toNat,show ((1:Int) % 18446744073709551616).toNat=1 from rfl,Nat.and_one_is_mod,wrap_id (by omega) (by omega)]
 omega
theorem and64_three (a:Int):and64 a 3=a % 4:=by
 unfold and64
 rw[BitVec.toNat_and,ofInt_toNat,ofInt_toNat,show ((3:Int) % 18446744073709551616).toNat=2 ^ 2 - 1 from rfl,Nat.and_two_pow_sub_one_eq_mod,wrap_id (by omega) (by omega)]
 omega
theorem bit_cases {a:Int} (h:0≤a∧a≤1):a=0∨a=1:=by omega
theorem and64_bit {a b:Int} (ha:0≤a∧a≤1) (hb:0≤b∧b≤1):and64 a b=a*b:=by
 rcases bit_cases ha with rfl|rfl<;>rcases bit_cases hb with rfl|rfl<;>decide
theorem xor64_bit {a b:Int} (ha:0≤a∧a≤1) (hb:0≤b∧b≤1):xor64 a b=(a+b) % 2:=by
 rcases bit_cases ha with rfl|rfl<;>rcases bit_cases hb with rfl|rfl<;>decide
theorem shl64_of {a:Int} {k:Nat} (ha:0≤a) (hk:k≤62) (h:a*2 ^ k≤9223372036854775807):shl64 a k=a*2 ^ k:=by
 unfold shl64
 rw[Int.toNat_natCast,Nat.min_eq_left (by omega)]
 have:0≤a*2 ^ k:=Int.mul_nonneg ha (Int.le_of_lt (Int.pow_pos (by omega)))
 exact wrap_id (by omega) h
theorem pow_le {k n:Nat} (h:k≤n):(2:Int) ^ k≤2 ^ n:=by
 have:=Nat.pow_le_pow_right (show 0<2 by omega) h
 exact_mod_cast this
theorem shl64_bit {b:Int} {k:Nat} (hb:0≤b∧b≤1) (hk:k≤62):shl64 b k=b*2 ^ k:=by
 refine shl64_of hb.1 hk ?_
 have h62:=pow_le hk
 have:(2:Int) ^ 62=4611686018427387904:=by decide
 rcases bit_cases hb with rfl|rfl<;>omega
theorem toNat_of_small {a:Int} (h0:0≤a) (h1:a<18446744073709551616):(BitVec.ofInt 64 a).toNat=a.toNat:=by
 rw[ofInt_toNat,Int.emod_eq_of_lt h0 h1]
theorem or64_bit {a b:Int} {k:Nat} (ha:0≤a∧a<2 ^ k) (hb:0≤b∧b≤1) (hk:k≤61):or64 a (b*2 ^ k)=a+b*2 ^ k:=by
 have h62:=pow_le hk
 have e62:(2:Int) ^ 61=2305843009213693952:=by decide
 have hp:(0:Int)<2 ^ k:=Int.pow_pos (by omega)
 unfold or64
 rcases bit_cases hb with rfl|rfl
 · rw[BitVec.toNat_or,toNat_of_small ha.1 (by omega),show (0:Int)*2 ^ k=0 by omega]
   simp
   rw[wrap_id (by omega) (by omega)]
   omega
 · rw[BitVec.toNat_or,toNat_of_small ha.1 (by omega),Int.one_mul,toNat_of_small (by omega) (by omega)]
   have e:((2:Int) ^ k).toNat=2 ^ k:=by
    have:((2:Int) ^ k)=((2 ^ k:Nat):Int):=by simp
    rw[this,Int.toNat_natCast]
   have hlt:a.toNat<2 ^ k:=by rw[←e];omega
   rw[e,Nat.or_comm,show 2 ^ k=2 ^ k*1 by omega,←Nat.two_pow_add_eq_or_of_lt hlt,Nat.mul_one]
   have e2:(((2 ^ k:Nat)):Int)=2 ^ k:=by simp
   rw[Int.natCast_add,e2,wrap_id (by omega) (by omega)]
   omega
def flip (x:Int):Int:=if x % 2=0 then x+1 else x - 1
theorem xor64_one {a:Int} (h0:0≤a) (h1:a<4611686018427387904):xor64 a 1=flip a:=by
 unfold xor64 flip
 rw[BitVec.toNat_xor,toNat_of_small h0 (by omega),show (BitVec.ofInt 64 1).toNat=1 from rfl]
 obtain⟨n,rfl⟩:∃ n:Nat,a=n:=⟨a.toNat,by omega⟩
 rw[Int.toNat_natCast]
 have h:=Nat.div_add_mod n 2
 have h1:=Nat.div_add_mod (n ^^^ 1) 2
 have h2:(n ^^^ 1) / 2=n / 2:=by rw[Nat.xor_div_two];simp
 have h3:=Nat.xor_mod_two_eq_one (a:=n) (b:=1)
 rw[wrap_id (by omega) (by omega)]
 split<;>omega
theorem xor64_zero {a:Int} (h0:0≤a) (h1:a<4611686018427387904):xor64 a 0=a:=by
 unfold xor64
 rw[BitVec.toNat_xor,toNat_of_small h0 (by omega),show (BitVec.ofInt 64 0).toNat=0 from rfl,Nat.xor_zero,wrap_id (by omega) (by omega)]
 omega
theorem quo2 {a:Int} (h0:0≤a) (h1:a≤9223372036854775807):IntKind.i64.wrap (a.tdiv 2)=a / 2:=by
 rw[Int.tdiv_eq_ediv_of_nonneg h0,wrap_id (by omega) (by omega)]
theorem u64_id {a:Int} (h0:0≤a) (h1:a≤9223372036854775807):IntKind.u64.wrap a=a:=by
 have:=IntWalk.u64_in a
 exact this ⟨h0,by omega⟩
def bit (x:Int) (k:Nat):Int:=shr64 x k % 2
theorem bit_01 (x:Int) (k:Nat):0≤bit x k∧bit x k≤1:=by unfold bit;omega
theorem and_shr (x:Int) (k:Nat):and64 (shr64 x k) 1=bit x k:=and64_one _
end Go.Proofs.Ytnjedabjbeipeaa
