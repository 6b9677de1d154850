/-
  First contracts by abstract walks.
  Conditions: those typed in each theorem.
-/
import Derived.Test.YtnjedabjbeipeaaV5
/-
  First contracts by abstract walks.
  Conditions: those typed in each theorem.
-/
namespace Go.Proofs.Ytnjedabjbeipeaa
open Go.RowKit Go.ChangeShapes Go.WideShapes
set_option linter.unusedVariables false
set_option linter.unusedSimpArgs false
theorem inr_con (n lo hi:Int):ConC Try.prog 73 [.d (.int .i64 n),.d (.int .i64 lo),.d (.int .i64 hi)] (.d (.bool (rng n lo hi))):=by
 refine con_of (by kernel_rfl) Try.func73 rfl rfl rfl ?_
 simp[AWp_region_f,AWp_seq,↓condG_true,↓condG_false,condG_true,condG_false,AWp_ret,AOps_nil,AOp_move,AOp_assign,AOp_pick,AOp_binOp,AOp_guard,guardD_some,guardG_bool,nextO_some,pickO,thenA,St.get,St.put,St.eval,ofCell,evalT,abin_leq,abin_geq,pickV,ofX,abinS,rng]
 constructor<;>intro h<;>simp[RetA,resVs,resV,gives,give1,takeC,St.get,h]<;>omega
theorem nodesBelow_con (xs:List Int) (most:Int) (hl:xs.length≤1099511627776) (hm:0≤most∧most≤1099511627776) :
 ConC Try.prog 49 [.d (eSl 3 (e1 eInt) xs),.d (.int .i64 most)] (.d (.bool (xs.all fun x=>rng x 0 (most - 1)))):=by
 refine con_of (by kernel_rfl) Try.func49 rfl rfl rfl ?_
 simp[AWp_region_f,AWp_seq,AWp_block,AOps_nil,AOp_move,AOp_assign,AOp_len,nextO_some,lenO,thenA,St.get,St.put,St.eval,ofCell,evalT,lenV,ofX,eSl]
 refine aw_loop' (fun k:Nat=>k≤xs.length∧(xs.take k).all (fun x=>rng x 0 (most - 1))=true) (fun k=>⟨frame 19 [(0,.d (eSl 3 (e1 eInt) xs)),(1,.d (.int .i64 most)),(7,.d (eSl 3 (e1 eInt) xs)),(8,.d (.int .i64 xs.length)),(9,.d (.int .i64 k))],[]⟩) (fun k=>xs.length - k) 0 ⟨by simp,rfl⟩ ?_ ?_
 · exact⟨[],by simp[isPin,leSlots,leTmps,leV,le0,presD,ren0,frame,eSl,eSl]⟩
 rintro I S μ hI hS hμ k ⟨hk,ha⟩
 by_cases hlt:k<xs.length
 · have hx:xs[k]? = some xs[k]:=List.getElem?_eq_getElem hlt
   have w1:IntKind.i64.wrap (most - 1)=most - 1:=wrap_id (by omega) (by omega)
   have w2:IntKind.i64.wrap ((k:Int)+1)=(k:Int)+1:=wrap_id (by omega) (by omega)
   simp[AWp_skip,AWp_region_f,AWp_seq,AWp_cond,condV_bool,↓condB_true,AWp_block,AOps_nil,AOp_move,AOp_assign,AOp_binOp,AOp_indexAddr,AOp_load,AOp_call,nextO_some,idxO,thenA,St.get,St.put,St.eval,ofCell,evalT,abin_sub,abin_lss,intOf?,indexV,takeD,loadV,presD,pres,presAll,nat_neg,eSl,e1,eInt,abinS,frame,hlt,w1]
   refine call_step (inr_con _ _ _) ?_
   simp[AWp_skip,AWp_region_f,AWp_seq,AWp_cond,condV_bool,condB,AWp_ret,AOps_nil,AOp_move,AOp_assign,AOp_binOp,AOp_unOp,nextO_some,thenA,inBlockA,St.get,St.put,St.eval,ofCell,evalT,abin_add,aun,abinS,afterCall,inst,inst1,instD,w2]
   refine⟨fun h=>?_,fun h=>round_of hI hS hμ (k+1) ⟨by omega,by rw[all_snoc' hx,ha,h];rfl⟩ (by omega) ⟨[],by simp[isPin,leSlots,leTmps,leV,le0,presD,ren0,frame,eSl,eSl]⟩⟩
   simp[RetA,resVs,resV,gives,give1,takeC,St.get,all_not' (p:=fun x=>rng x 0 (most - 1)) hx h]
 · have hk':k=xs.length:=by omega
   rw[hk',List.take_length] at ha
   simp[AWp_region_f,AWp_seq,AWp_cond,condV_bool,↓condB_false,AWp_exit,AWp_ret,AOps_nil,AOp_assign,AOp_binOp,nextO_some,thenA,inBlockA,St.get,St.put,St.eval,ofCell,evalT,abin_lss,takeC,eSl,abinS,frame,hlt,RetA,resVs,resV,gives,give1,takeC,St.get,ha]
end Go.Proofs.Ytnjedabjbeipeaa
/-
  Contracts of the laws' helpers over []int and sequential elements, by abstract walks.
  Conditions: those typed in each theorem.
-/
namespace Go.Proofs.Ytnjedabjbeipeaa
open Go.RowKit Go.ChangeShapes Go.WideShapes
set_option linter.unusedVariables false
set_option linter.unusedSimpArgs false
def mix {β:Type} (ys:List β) (z:β) (k:Nat):List β:=ys.take k++List.replicate (ys.length - k) z
section
variable {β:Type} {ys:List β} {y z:β} {k:Nat}
theorem mix_len (h:k≤ys.length):(mix ys z k).length=ys.length:=by simp[mix];omega
theorem mix_at (h:k<ys.length):(mix ys z k)[k]? = some z:=by
 unfold mix
 rw[List.getElem?_append_right (by simp;omega),List.length_take,Nat.min_eq_left (by omega),Nat.sub_self,List.getElem?_replicate,if_pos (by omega)]
theorem mix_set (h:ys[k]? = some y):(mix ys z k).set k y=mix ys z (k+1):=by
 obtain⟨hk,rfl⟩:=List.getElem?_eq_some_iff.1 h
 unfold mix
 rw[List.set_append_right _ _ (by simp;omega),List.length_take,Nat.min_eq_left (by omega),Nat.sub_self,take_snoc' h]
 obtain⟨m,hm⟩:∃ m,ys.length - k=m+1:=⟨ys.length - k - 1,by omega⟩
 rw[hm,List.replicate_succ,List.set_cons_zero,show ys.length - (k+1)=m by omega,List.append_assoc]
 rfl
theorem mix_zero:mix ys z 0=List.replicate ys.length z:=by simp[mix]
theorem mix_all:mix ys z ys.length=ys:=by simp[mix]
end
end Go.Proofs.Ytnjedabjbeipeaa
/-
  Contracts of the laws' helpers over sequential elements, by abstract walks.
  Conditions: those typed in each theorem.
-/
namespace Go.Proofs.Ytnjedabjbeipeaa
open Go.RowKit Go.ChangeShapes Go.WideShapes
set_option linter.unusedVariables false
set_option linter.unusedSimpArgs false
abbrev SeqD:Type:=Int×Int×List Int
def enSeq (x:SeqD):List D:=e3 eInt eInt (eSl 3 (e1 eInt)) x
end Go.Proofs.Ytnjedabjbeipeaa
/-
  Contracts of the laws' helpers over slices of sequential elements, by abstract walks.
  Conditions: those typed in each theorem.
-/
namespace Go.Proofs.Ytnjedabjbeipeaa
open Go.RowKit Go.ChangeShapes Go.WideShapes
set_option linter.unusedVariables false
set_option linter.unusedSimpArgs false
end Go.Proofs.Ytnjedabjbeipeaa
