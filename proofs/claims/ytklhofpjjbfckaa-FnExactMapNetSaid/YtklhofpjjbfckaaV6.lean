/-
  First contracts by abstract walks.
  Conditions: those typed in each theorem.
-/
import Derived.Test.YtklhofpjjbfckaaV5
/-
  First contracts by abstract walks.
  Conditions: those typed in each theorem.
-/
namespace Go.Proofs.Ytklhofpjjbfckaa
open Go.RowKit Go.ChangeShapes Go.WideShapes
set_option linter.unusedVariables false
set_option linter.unusedSimpArgs false
theorem inr_con (n lo hi:Int):ConC Try.prog 163 [.d (.int .i64 n),.d (.int .i64 lo),.d (.int .i64 hi)] (.d (.bool (rng n lo hi))):=by
 refine con_of (by kernel_rfl) Try.func163 rfl rfl rfl ?_
 simp[AWp_region_f,AWp_seq,↓condG_true,↓condG_false,condG_true,condG_false,AWp_ret,AOps_nil,AOp_move,AOp_assign,AOp_pick,AOp_binOp,AOp_guard,guardD_some,guardG_bool,nextO_some,pickO,thenA,St.get,St.put,St.eval,ofCell,evalT,abin_leq,abin_geq,pickV,ofX,abinS,rng]
 constructor<;>intro h<;>simp[RetA,resVs,resV,gives,give1,takeC,St.get,h]<;>omega
end Go.Proofs.Ytklhofpjjbfckaa
/-
  Contracts of the laws' helpers over []int and sequential elements, by abstract walks.
  Conditions: those typed in each theorem.
-/
namespace Go.Proofs.Ytklhofpjjbfckaa
open Go.RowKit Go.ChangeShapes Go.WideShapes
set_option linter.unusedVariables false
set_option linter.unusedSimpArgs false
def szL (n:Nat) (l:Int):Int:=if l - n<0 then -1 else l - n
theorem szInts_con (xs:List Int) (l:Int) (hx:xs.length≤9223372036854775807) (hl:0≤l∧l≤1048576) :
 ConC Try.prog 87 [.d (eSl 3 (e1 eInt) xs),.d (.int .i64 l)] (.d (.int .i64 (szL xs.length l))):=by
 refine con_of (by kernel_rfl) Try.func87 rfl rfl rfl ?_
 have w1:IntKind.i64.wrap (l - xs.length)=l - xs.length:=wrap_id (by omega) (by omega)
 simp[AWp_skip,AWp_region_f,AWp_seq,AWp_cond,condV_bool,condB,AWp_ret,AOps_nil,AOp_move,AOp_assign,AOp_binOp,AOp_len,nextO_some,lenO,thenA,St.get,St.put,St.eval,ofCell,evalT,abin_sub,abin_lss,lenV,ofX,eSl,abinS,w1]
 constructor<;>intro h<;>simp[RetA,resVs,resV,gives,give1,takeC,St.get,szL,h]<;>omega
def mix {β:Type} (ys:List β) (z:β) (k:Nat):List β:=ys.take k++List.replicate (ys.length - k) z
section
variable {β:Type} {ys:List β} {y z:β} {k:Nat}
theorem mix_len (h:k≤ys.length):(mix ys z k).length=ys.length:=by simp[mix];omega
theorem mix_at (h:k<ys.length):(mix ys z k)[k]? = some z:=by
 unfold mix
 rw[List.getElem?_append_right (by simp;omega),List.length_take,Nat.min_eq_left (by omega),Nat.sub_self,List.getElem?_replicate,if_pos (by omega)]
theorem mix_get {h:k<(mix ys z k).length}:(mix ys z k)[k]=z:=by
 have hk:k<ys.length:=by
  have h':=h
  simp only[mix,List.length_append,List.length_take,List.length_replicate] at h'
  omega
 have h2:=mix_at (z:=z) hk
 rw[List.getElem?_eq_getElem h] at h2
 exact Option.some.inj h2
theorem mix_set (h:ys[k]? = some y):(mix ys z k).set k y=mix ys z (k+1):=by
 obtain⟨hk,rfl⟩:=List.getElem?_eq_some_iff.1 h
 unfold mix
 rw[List.set_append_right _ _ (by simp;omega),List.length_take,Nat.min_eq_left (by omega),Nat.sub_self,take_snoc' h]
 obtain⟨m,hm⟩:∃ m,ys.length - k=m+1:=⟨ys.length - k - 1,by omega⟩
 rw[hm,List.replicate_succ,List.set_cons_zero,show ys.length - (k+1)=m by omega,List.append_assoc]
 rfl
theorem mix_zero:mix ys z 0=List.replicate ys.length z:=by simp[mix]
theorem mix_all:mix ys z ys.length=ys:=by simp[mix]
end
theorem toInts_con (xs:List Int) (hx:xs.length≤1048576) :
 ConC Try.prog 94 [.d (eSl 3 (e1 eInt) xs)] (.d (eSl 3 (e1 eInt) xs)):=by
 refine con_of (by kernel_rfl) Try.func94 rfl rfl rfl ?_
 simp[AWp_region_f,AWp_seq,AWp_block,AOps_nil,AOp_move,AOp_assign,AOp_len,AOp_makeSlice,nextO_some,nextM_some,lenO,makeO,thenA,St.get,St.put,St.eval,ofCell,evalT,lenV,intOf?,ofX,plains,plainV,scalarV,eSl]
 refine⟨by omega,?_⟩
 refine aw_loop' (fun k:Nat=>k≤xs.length) (fun k=>⟨frame 22 [(0,.d (eSl 3 (e1 eInt) xs)),(3,.ref 0),(4,.d (.int .i64 k))],[.arr 3 true (mix (xs.map (e1 eInt)) [.int .i64 0] k)]⟩) (fun k=>xs.length - k) 0 (by simp) ?_ ?_
 · exact⟨[0],by simp[isPin,leSlots,leS,leTmps,leV,le0,presD,ren0,frame,eSl,mix_zero]⟩
 rintro I S μ hI hS hμ k hk
 by_cases hlt:k<xs.length
 · have hx1:xs[k]? = some xs[k]:=List.getElem?_eq_getElem hlt
   have w2:IntKind.i64.wrap ((k:Int)+1)=(k:Int)+1:=wrap_id (by omega) (by omega)
   have m1:=mix_len (ys:=xs.map (e1 eInt)) (z:=[.int .i64 0]) (k:=k) (by simp;omega)
   have m2:=mix_at (ys:=xs.map (e1 eInt)) (z:=[.int .i64 0]) (k:=k) (by simp;omega)
   have m3:=mix_set (ys:=xs.map (e1 eInt)) (z:=[.int .i64 0]) (k:=k) (y:=[.int .i64 xs[k]]) (by simp[hx1,e1,eInt])
   rw[List.length_map] at m1
   simp[AWp_skip,AWp_region_f,AWp_seq,AWp_cond,condV_bool,↓condB_true,AWp_block,AOps_nil,AOp_move,AOp_assign,AOp_binOp,AOp_len,AOp_indexAddr,AOp_load,AOp_store,nextO_some,nextS_some,lenO,idxO,thenA,inBlockA,St.get,St.put,St.eval,ofCell,evalT,abin_add,abin_lss,lenV,intOf?,indexV,takeD,loadV,cellsV,V.cell,storeV,putAt,kill,takeC,nat_neg,eSl,e1,eInt,abinS,frame,hlt,w2,m1,mix_get,m3]
   exact round_of hI hS hμ (k+1) (by omega) (by omega) ⟨[0],by simp[isPin,leSlots,leS,leTmps,leV,le0,presD,ren0,frame,eSl]⟩
 · have hk':k=xs.length:=by omega
   subst hk'
   have m4:=mix_all (ys:=xs.map (e1 eInt)) (z:=[.int .i64 0])
   rw[List.length_map] at m4
   simp[AWp_region_f,AWp_seq,AWp_cond,condV_bool,↓condB_false,AWp_exit,AWp_ret,AOps_nil,AOp_move,AOp_assign,AOp_binOp,AOp_len,nextO_some,lenO,thenA,inBlockA,St.get,St.put,St.eval,evalT,abin_lss,lenV,takeC,eSl,abinS,frame,RetA,resVs,resV,gives,give1,takeC,St.get,m4]
theorem eqInts_con (xs:List Int) (hx:xs.length≤1048576) :
 ConC Try.prog 98 [.d (eSl 3 (e1 eInt) xs),.d (eSl 3 (e1 eInt) xs)] (.d (.bool true)):=by
 refine con_of (by kernel_rfl) Try.func98 rfl rfl rfl ?_
 simp[AWp_skip,AWp_region_f,AWp_seq,AWp_cond,condV_bool,↓condB_false,AWp_block,AOps_nil,AOp_move,AOp_assign,AOp_binOp,AOp_len,nextO_some,lenO,thenA,St.get,St.put,St.eval,ofCell,evalT,abin_neq,lenV,ofX,eSl,abinS]
 refine aw_loop' (fun k:Nat=>k≤xs.length) (fun k=>⟨frame 26 [(0,.d (eSl 3 (e1 eInt) xs)),(1,.d (eSl 3 (e1 eInt) xs)),(5,.d (.int .i64 k))],[]⟩) (fun k=>xs.length - k) 0 (by simp) ?_ ?_
 · exact⟨[],by simp[isPin,leSlots,leTmps,leV,le0,presD,ren0,frame,eSl]⟩
 rintro I S μ hI hS hμ k hk
 by_cases hlt:k<xs.length
 · have hx1:xs[k]? = some xs[k]:=List.getElem?_eq_getElem hlt
   have w2:IntKind.i64.wrap ((k:Int)+1)=(k:Int)+1:=wrap_id (by omega) (by omega)
   simp[AWp_skip,AWp_region_t,AWp_region_f,AWp_seq,AWp_cond,condV_bool,↓condB_true,↓condB_false,AWp_block,AOps_nil,AOp_move,AOp_assign,AOp_binOp,AOp_len,AOp_indexAddr,AOp_load,nextO_some,lenO,idxO,thenA,inBlockA,St.get,St.put,St.eval,ofCell,evalT,abin_add,abin_neq,abin_lss,lenV,intOf?,indexV,takeD,loadV,nat_neg,eSl,e1,eInt,abinS,frame,hlt,w2]
   refine⟨by kernel_rfl,?_⟩
   exact round_of hI hS hμ (k+1) (by omega) (by omega) ⟨[],by simp[isPin,leSlots,leTmps,leV,le0,presD,ren0,frame,eSl]⟩
 · have hk':k=xs.length:=by omega
   subst hk'
   simp[AWp_region_f,AWp_seq,AWp_cond,condV_bool,↓condB_false,AWp_exit,AWp_ret,AOps_nil,AOp_move,AOp_assign,AOp_binOp,AOp_len,nextO_some,lenO,thenA,inBlockA,St.get,St.put,St.eval,ofCell,evalT,abin_lss,lenV,takeC,eSl,abinS,frame,RetA,resVs,resV,gives,give1,takeC,St.get]
end Go.Proofs.Ytklhofpjjbfckaa
/-
  Contracts of the laws' helpers over sequential elements, by abstract walks.
  Conditions: those typed in each theorem.
-/
namespace Go.Proofs.Ytklhofpjjbfckaa
open Go.RowKit Go.ChangeShapes Go.WideShapes
set_option linter.unusedVariables false
set_option linter.unusedSimpArgs false
abbrev SeqD:Type:=Int×Int×List Int
def enSeq (x:SeqD):List D:=e3 eInt eInt (eSl 3 (e1 eInt)) x
def szGo {α:Type} (f:α→Int→Int):List α→Int→Int
 | [],l=>l
 | x::xs,l=>if f x l<0 then -1 else szGo f xs (f x l)
def szS {α:Type} (f:α→Int→Int) (xs:List α) (l:Int):Int:=if l - xs.length<0 then -1 else szGo f xs (l - xs.length)
def szSeqL (x:SeqD) (l:Int):Int:=szL x.2.2.length l
theorem szL_or (n:Nat) (l:Int):szL n l=-1∨(0≤szL n l∧szL n l=l - n):=by unfold szL;split<;>omega
theorem szSeq_con (x:SeqD) (l:Int) (hx:x.2.2.length≤9223372036854775807) (hl:0≤l∧l≤1048576) :
 ConC Try.prog 179 [.agg (enSeq x),.d (.int .i64 l)] (.d (.int .i64 (szSeqL x l))):=by
 refine con_of (by kernel_rfl) Try.func179 rfl rfl rfl ?_
 simp[AWp_region_f,AWp_seq,AOps_nil,AOp_move,AOp_assign,AOp_load,AOp_fieldAddr,AOp_box,AOp_call,nextO_some,thenA,St.get,St.put,St.eval,ofCell,evalT,takeV,loadV,fieldAddrV,ofX,presD,pres,presAll,cellsV,V.cell,eSl,e3,eInt,enSeq]
 refine call_step (szInts_con _ _ hx hl) ?_
 simp[AWp_skip,AWp_region_f,AWp_seq,AWp_cond,condV_bool,condB,AWp_ret,AOps_nil,AOp_move,AOp_assign,AOp_binOp,nextO_some,thenA,St.get,St.put,St.eval,ofCell,evalT,abin_lss,abinS,afterCall,inst,inst1,instD]
 have:=szL_or x.2.2.length l
 constructor<;>intro h<;>simp[RetA,resVs,resV,gives,give1,takeC,St.get,szSeqL]<;>omega
theorem toSeq_con (x:SeqD) (hx:x.2.2.length≤1048576) :
 ConC Try.prog 183 [.agg (enSeq x)] (.agg (enSeq x)):=by
 refine con_of (by kernel_rfl) Try.func183 rfl rfl rfl ?_
 simp[AWp_region_f,AWp_seq,AOps_nil,AOp_load,AOp_fieldAddr,AOp_alloc,AOp_box,AOp_call,AOp_store,nextO_some,nextS_some,nextZ_some,thenA,St.get,St.put,St.eval,evalT,takeV,loadV,fieldAddrV,ofX,presD,pres,presAll,cellsV,V.cell,storeV,putAt,eSl,e3,eInt,enSeq]
 refine call_step (toInts_con _ hx) ?_
 simp[AWp_region_f,AWp_seq,AWp_ret,AOps_nil,AOp_load,AOp_fieldAddr,AOp_store,nextO_some,nextS_some,thenA,St.get,St.put,St.eval,evalT,takeV,loadV,fieldAddrV,cellsV,V.cell,storeV,putAt,takeC,eSl,afterCall,inst,inst1,instD,RetA,resVs,resV,gives,give1,takeC,St.get]
theorem eqSeq_con (x:SeqD) (hx:x.2.2.length≤1048576) :
 ConC Try.prog 189 [.agg (enSeq x),.agg (enSeq x)] (.d (.bool true)):=by
 refine con_of (by kernel_rfl) Try.func189 rfl rfl rfl ?_
 simp[AWp_skip,AWp_region_f,AWp_seq,AWp_cond,condV_bool,↓condB_false,AOps_nil,AOp_assign,AOp_binOp,AOp_load,AOp_fieldAddr,AOp_box,AOp_call,nextO_some,thenA,St.get,St.put,St.eval,ofCell,evalT,abin_neq,takeV,loadV,fieldAddrV,ofX,presD,pres,presAll,cellsV,V.cell,eSl,e3,eInt,abinS,enSeq]
 refine call_step (eqInts_con _ hx) ?_
 simp[AWp_skip,AWp_region_f,AWp_seq,AWp_cond,condV_bool,↓condB_false,AWp_ret,AOps_nil,AOp_assign,AOp_unOp,nextO_some,thenA,St.get,St.put,St.eval,ofCell,evalT,aun,takeC,afterCall,inst,inst1,instD,RetA,resVs,resV,gives,give1,takeC,St.get]
end Go.Proofs.Ytklhofpjjbfckaa
/-
  Contracts of the laws' helpers over slices of sequential elements, by abstract walks.
  Conditions: those typed in each theorem.
-/
namespace Go.Proofs.Ytklhofpjjbfckaa
open Go.RowKit Go.ChangeShapes Go.WideShapes
set_option linter.unusedVariables false
set_option linter.unusedSimpArgs false
theorem szGo_drop {α:Type} {f:α→Int→Int} {xs:List α} {k:Nat} {x:α} {l:Int} (hx:xs[k]? = some x):szGo f (xs.drop k) l=if f x l<0 then -1 else szGo f (xs.drop (k+1)) (f x l):=by
 obtain⟨hk,rfl⟩:=List.getElem?_eq_some_iff.1 hx
 rw[List.drop_eq_getElem_cons hk]
 rfl
theorem szSeqS_con (xs:List SeqD) (l:Int) (hx:xs.length≤9223372036854775807) (hxs:∀ x∈xs,x.2.2.length≤9223372036854775807) (hl:0≤l∧l≤1048576) :
 ConC Try.prog 85 [.d (eSl 155 enSeq xs),.d (.int .i64 l)] (.d (.int .i64 (szS szSeqL xs l))):=by
 refine con_of (by kernel_rfl) Try.func85 rfl rfl rfl ?_
 have w1:IntKind.i64.wrap (l - xs.length)=l - xs.length:=wrap_id (by omega) (by omega)
 simp[AWp_skip,AWp_region_f,AWp_seq,AWp_cond,condV_bool,condB,AWp_block,AWp_ret,AOps_nil,AOp_move,AOp_assign,AOp_binOp,AOp_len,nextO_some,lenO,thenA,St.get,St.put,St.eval,ofCell,evalT,abin_sub,abin_lss,lenV,ofX,eSl,abinS,w1]
 constructor
 · intro h
   simp[RetA,resVs,resV,gives,give1,takeC,St.get,szS,h]
 intro h
 refine aw_loop' (fun i:Nat×Int=>i.1≤xs.length∧0≤i.2∧i.2≤1048576∧szGo szSeqL (xs.drop i.1) i.2=szS szSeqL xs l) (fun i=>⟨frame 27 [(0,.d (eSl 155 enSeq xs)),(1,.d (.int .i64 i.2)),(5,.d (.int .i64 i.1))],[]⟩) (fun i=>xs.length - i.1) (0,l - xs.length) ⟨by simp,by simp;omega,by simp;omega,by simp[szS];omega⟩ ?_ ?_
 · exact⟨[],by simp[isPin,leSlots,leTmps,leV,le0,presD,ren0,frame,eSl]⟩
 rintro I S μ hI hS hμ ⟨k,m⟩ ⟨hk,hm,hm2,hs⟩
 simp only at hk hm hm2 hs
 by_cases hlt:k<xs.length
 · have hx1:xs[k]? = some xs[k]:=List.getElem?_eq_getElem hlt
   have w2:IntKind.i64.wrap ((k:Int)+1)=(k:Int)+1:=wrap_id (by omega) (by omega)
   have hL:(enSeq xs[k]).length=3:=rfl
   simp[AWp_skip,AWp_region_f,AWp_seq,AWp_cond,condV_bool,↓condB_true,AWp_block,AOps_nil,AOp_move,AOp_binOp,AOp_len,AOp_indexAddr,AOp_load,AOp_call,nextO_some,lenO,idxO,thenA,St.get,St.put,St.eval,evalT,abin_lss,lenV,intOf?,indexV,takeD,loadV,presD,pres,presAll,nat_neg,eSl,abinS,frame,hlt,hL]
   refine call_step (szSeq_con xs[k] m (hxs _ (List.getElem_mem hlt)) ⟨hm,hm2⟩) ?_
   simp[AWp_skip,AWp_region_f,AWp_seq,AWp_cond,condV_bool,condB,AWp_ret,AOps_nil,AOp_move,AOp_assign,AOp_binOp,nextO_some,thenA,inBlockA,St.get,St.put,St.eval,ofCell,evalT,abin_add,abin_lss,abinS,afterCall,inst,inst1,instD,w2]
   rw[szGo_drop hx1] at hs
   have ho:=szL_or xs[k].2.2.length m
   refine⟨fun h=>?_,fun h=>round_of hI hS hμ (k+1,szSeqL xs[k] m) ⟨by simp;omega,by simp;omega,?_,?_⟩ (by simp;omega) ⟨[],by simp[isPin,leSlots,leTmps,leV,le0,presD,ren0,frame,eSl]⟩⟩
   · rw[if_pos (by omega)] at hs
     simp[RetA,resVs,resV,gives,give1,takeC,St.get,←hs]
   · simp only[szSeqL] at h ⊢;omega
   · rw[if_neg (by omega)] at hs
     exact hs
 · have hk':k=xs.length:=by omega
   subst hk'
   simp[szGo] at hs
   simp[AWp_region_f,AWp_seq,AWp_cond,condV_bool,↓condB_false,AWp_exit,AWp_ret,AOps_nil,AOp_move,AOp_assign,AOp_binOp,AOp_len,nextO_some,lenO,thenA,inBlockA,St.get,St.put,St.eval,evalT,abin_lss,lenV,takeC,eSl,abinS,frame,RetA,resVs,resV,gives,give1,takeC,St.get,hs]
def zSeq:List D:=enSeq (0,0,[])
theorem toSeqS_con (xs:List SeqD) (hx:xs.length≤1048576) (hxs:∀ x∈xs,x.2.2.length≤1048576) :
 ConC Try.prog 92 [.d (eSl 155 enSeq xs)] (.d (eSl 31 enSeq xs)):=by
 refine con_of (by kernel_rfl) Try.func92 rfl rfl rfl ?_
 simp[AWp_region_f,AWp_seq,AWp_block,AOps_nil,AOp_move,AOp_assign,AOp_len,AOp_makeSlice,nextO_some,nextM_some,lenO,makeO,thenA,St.get,St.put,St.eval,ofCell,evalT,lenV,intOf?,ofX,plains,plainV,scalarV,eSl]
 refine⟨by omega,?_⟩
 refine aw_loop' (fun k:Nat=>k≤xs.length) (fun k=>⟨frame 23 [(0,.d (eSl 155 enSeq xs)),(3,.ref 0),(4,.d (.int .i64 k))],[.arr 31 true (mix (xs.map enSeq) zSeq k)]⟩) (fun k=>xs.length - k) 0 (by simp) ?_ ?_
 · exact⟨[0],by simp[isPin,leSlots,leS,leTmps,leV,le0,presD,ren0,frame,eSl,e3,eInt,mix_zero,enSeq,zSeq]⟩
 rintro I S μ hI hS hμ k hk
 by_cases hlt:k<xs.length
 · have hx1:xs[k]? = some xs[k]:=List.getElem?_eq_getElem hlt
   have w2:IntKind.i64.wrap ((k:Int)+1)=(k:Int)+1:=wrap_id (by omega) (by omega)
   have m1:=mix_len (ys:=xs.map enSeq) (z:=zSeq) (k:=k) (by simp;omega)
   have m3:=mix_set (ys:=xs.map enSeq) (z:=zSeq) (k:=k) (y:=enSeq xs[k]) (by simp[hx1])
   have hL:(enSeq xs[k]).length=3:=rfl
   have hz:zSeq.length=3:=rfl
   have hz2:zSeq.drop 3=[]:=rfl
   rw[List.length_map] at m1
   simp only[enSeq,e3,eInt,eSl] at m3
   simp[AWp_skip,AWp_region_f,AWp_seq,AWp_cond,condV_bool,↓condB_true,AWp_block,AOps_nil,AOp_move,AOp_binOp,AOp_len,AOp_indexAddr,AOp_load,AOp_call,nextO_some,lenO,idxO,thenA,St.get,St.put,St.eval,evalT,abin_lss,lenV,intOf?,indexV,takeD,loadV,pres,presAll,nat_neg,eSl,abinS,frame,hlt,hL]
   refine call_step (toSeq_con xs[k] (hxs _ (List.getElem_mem hlt))) ?_
   simp[AWp_region_f,AOps_nil,AOp_move,AOp_assign,AOp_binOp,AOp_indexAddr,AOp_store,nextO_some,nextS_some,idxO,thenA,inBlockA,St.get,St.put,St.eval,ofCell,evalT,abin_add,intOf?,indexV,cellsV,V.cell,storeV,putAt,kill,takeC,nat_neg,eSl,e3,eInt,abinS,afterCall,inst,inst1,instD,instDs,w2,hlt,m1,mix_get,enSeq,hz,hz2,m3]
   exact round_of hI hS hμ (k+1) (by omega) (by omega) ⟨[0],by simp[isPin,leSlots,leS,leTmps,leV,le0,presD,ren0,frame,eSl]⟩
 · have hk':k=xs.length:=by omega
   subst hk'
   have m4:=mix_all (ys:=xs.map enSeq) (z:=zSeq)
   rw[List.length_map] at m4
   simp[AWp_region_f,AWp_seq,AWp_cond,condV_bool,↓condB_false,AWp_exit,AWp_ret,AOps_nil,AOp_move,AOp_assign,AOp_binOp,AOp_len,nextO_some,lenO,thenA,inBlockA,St.get,St.put,St.eval,evalT,abin_lss,lenV,takeC,eSl,abinS,frame,RetA,resVs,resV,gives,give1,takeC,St.get,m4]
theorem eqSeqS_con (xs:List SeqD) (hx:xs.length≤1048576) (hxs:∀ x∈xs,x.2.2.length≤1048576) :
 ConC Try.prog 99 [.d (eSl 31 enSeq xs),.d (eSl 31 enSeq xs)] (.d (.bool true)):=by
 refine con_of (by kernel_rfl) Try.func99 rfl rfl rfl ?_
 simp[AWp_skip,AWp_region_f,AWp_seq,AWp_cond,condV_bool,↓condB_false,AWp_block,AOps_nil,AOp_move,AOp_assign,AOp_binOp,AOp_len,nextO_some,lenO,thenA,St.get,St.put,St.eval,ofCell,evalT,abin_neq,lenV,ofX,eSl,abinS]
 refine aw_loop' (fun k:Nat=>k≤xs.length) (fun k=>⟨frame 27 [(0,.d (eSl 31 enSeq xs)),(1,.d (eSl 31 enSeq xs)),(5,.d (.int .i64 k))],[]⟩) (fun k=>xs.length - k) 0 (by simp) ?_ ?_
 · exact⟨[],by simp[isPin,leSlots,leTmps,leV,le0,presD,ren0,frame,eSl]⟩
 rintro I S μ hI hS hμ k hk
 by_cases hlt:k<xs.length
 · have hx1:xs[k]? = some xs[k]:=List.getElem?_eq_getElem hlt
   have w2:IntKind.i64.wrap ((k:Int)+1)=(k:Int)+1:=wrap_id (by omega) (by omega)
   have hL:(enSeq xs[k]).length=3:=rfl
   simp[AWp_skip,AWp_region_t,AWp_region_f,AWp_seq,AWp_cond,condV_bool,↓condB_true,AWp_block,AOps_nil,AOp_move,AOp_binOp,AOp_len,AOp_indexAddr,AOp_load,AOp_call,nextO_some,lenO,idxO,thenA,St.get,St.put,St.eval,evalT,abin_lss,lenV,intOf?,indexV,takeD,loadV,pres,presAll,nat_neg,eSl,abinS,frame,hlt,hL]
   refine⟨by kernel_rfl,?_⟩
   refine call_step (eqSeq_con xs[k] (hxs _ (List.getElem_mem hlt))) ?_
   simp[AWp_skip,AWp_region_f,AWp_cond,condV_bool,↓condB_false,AOps_nil,AOp_move,AOp_assign,AOp_binOp,AOp_unOp,nextO_some,thenA,inBlockA,St.get,St.put,St.eval,ofCell,evalT,abin_add,aun,abinS,afterCall,inst,inst1,instD,w2]
   exact round_of hI hS hμ (k+1) (by omega) (by omega) ⟨[],by simp[isPin,leSlots,leTmps,leV,le0,presD,ren0,frame,eSl]⟩
 · have hk':k=xs.length:=by omega
   subst hk'
   simp[AWp_region_f,AWp_seq,AWp_cond,condV_bool,↓condB_false,AWp_exit,AWp_ret,AOps_nil,AOp_move,AOp_assign,AOp_binOp,AOp_len,nextO_some,lenO,thenA,inBlockA,St.get,St.put,St.eval,ofCell,evalT,abin_lss,lenV,takeC,eSl,abinS,frame,RetA,resVs,resV,gives,give1,takeC,St.get]
end Go.Proofs.Ytklhofpjjbfckaa
