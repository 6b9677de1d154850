/-
  The cursor of the draws: bytes mixed with numbers; its walk.
  Conditions: those typed in each theorem.
-/
import Derived.Test.YtnjedabjbeipeaaBit
import Derived.Test.YtnjedabjbeipeaaNa
namespace Go.Proofs.Ytnjedabjbeipeaa
open Go.RowKit Go.ChangeShapes Go.WideShapes
set_option linter.unusedVariables false
set_option linter.unusedSimpArgs false
attribute [local simp ↓] condG_true condG_false condB_true condB_false
attribute [local simp] AWp_skip AWp_region_t AWp_region_d AWp_region_f still_mk AWp_seq AWp_cond condV_bool condB AWp_block AWp_exit AWp_ret
attribute [local simp] AOps_nil AOp_move AOp_assign AOp_pick AOp_binOp AOp_unOp AOp_convert AOp_len AOp_max AOp_min AOp_indexAddr AOp_load
attribute [local simp] AOp_fieldAddr AOp_field AOp_extract AOp_nilCheck AOp_build AOp_alloc AOp_box AOp_call AOp_store AOp_append AOp_buildSlice nextB_some
attribute [local simp] nextB_none adoptO adoptC AOp_makeSlice AOp_slice AOp_makeFunc AOp_guard guardD_some guardG_bool guardG_undef nextO_some nextS_some
attribute [local simp] nextZ_some nextL_some nextM_some nextT_some sliceO sliceL sliceT partO partV boundV funcO pickO
attribute [local simp] convO lenO maxO minO idxO extO nilO buildO litO litC makeO chunks
attribute [local simp] fillV placeOf thenA inBlockA St.get St.put St.eval ofCell evalT abin_add abin_sub abin_mul
attribute [local simp] abin_quo abin_rem abin_and abin_or abin_xor abin_andNot abin_shl abin_shr abin_shlu abin_eql abin_eqp abin_neq
attribute [local simp] abin_lss abin_leq abin_gtr abin_geq abin_eqlb abin_neqb aun pickV lenV intOf? indexV takeD
attribute [local simp] takeV loadV fieldAddrV fieldV ofX presD presDs pres presAll cellsV V.cell storeV
attribute [local simp] freezeC putAt kill takeC plains plainV scalarV nat_neg keepT sets eSl e1
attribute [local simp] e2 e3 e4 eInt eBool abinS_d abinS_agg abinS nilEq abin_eqb AOp_makeMap AOp_lookup
attribute [local simp] AOp_mapUpdate lookG_some updG_some mapV kyOf vlOf lookV vlV buildA afterCall inst inst1
attribute [local simp] inst1s instD instDs RetA resVs resV gives give1 give1s Le isPin leSlots
attribute [local simp] leS leTmps leV le0 le0s ren ren0 renS ren0s frame enterT afterT_some
attribute [local simp] afterC_some lives Slot.live arrsOk viewV view0 renT rens renSs setAll List.range'_succ RetT
attribute [local simp] RetW joinV leT AOpsE_nil AOpsE_cons AOpsT_nil AOpsT_cons isCallT isFnO callOf callVC_fn condC_true
attribute [local simp] condC_false beginT_mk beginX_mk AOpsX_zero thenT_mk pickE pickT isT loose namesOf namesV names1
attribute [local simp] names0 stableN sameAt Op.operands Call.operands
structure Cur where
 bs:List Int
 i:Nat
 h:Int
def eByte (x:Int):D:=.int .u8 x
abbrev enCur (c:Cur):Slot:=.var 105 [.d (.sl 5 (c.bs.map (e1 eByte))),.d (.int .i64 c.i),.d (.int .i64 c.h)]
def Cur.ok (c:Cur):Prop:=c.i≤c.bs.length∧c.bs.length≤1048576
def w64 (x:Int):Int:=IntKind.i64.wrap x
def hashK (bs:List Int):Nat→Int
 | 0=>w64 (33117+bs.length)
 | k+1=>and64 (w64 (w64 (w64 (hashK bs k*131)+w64 (bs.getD k 0))+7)) 1073741823
def cur0 (bs:List Int):Cur:=⟨bs,0,hashK bs (min bs.length 4000)⟩
def mixV (c:Cur):Int:=w64 (w64 (c.h*6364136223846793005)+1442695040888963407)
def lowV (c:Cur):Int:=and64 (xor64 (shr64 (mixV c) 33) (shr64 (mixV c) 45)) 255
def byteV (c:Cur):Int:=if c.i<c.bs.length then and64 (w64 (lowV c+w64 (c.bs.getD c.i 0))) 255 else lowV c
def byteC (c:Cur):Cur:=⟨c.bs,if c.i<c.bs.length then c.i+1 else c.i,mixV c⟩
def belowV (c:Cur) (n:Int):Int:=if n≤0 then 0 else (byteV c).tmod n
def belowC (c:Cur) (n:Int):Cur:=if n≤0 then c else byteC c
def onceV (c:Cur) (n:Int):Bool:=belowV c n==0
theorem and64_255 (a:Int):and64 a 255=a % 256:=by
 unfold and64
 rw[BitVec.toNat_and,ofInt_toNat,ofInt_toNat,show ((255:Int) % 18446744073709551616).toNat=2 ^ 8 - 1 from rfl,Nat.and_two_pow_sub_one_eq_mod,wrap_id (by omega) (by omega)]
 omega
theorem byteV_rng (c:Cur):0≤byteV c∧byteV c≤255:=by
 unfold byteV lowV
 split<;>rw[and64_255]<;>omega
theorem byteC_ok {c:Cur} (h:c.ok):(byteC c).ok:=by
 obtain⟨h1,h2⟩:=h
 refine⟨?_,h2⟩
 unfold byteC
 simp only
 split<;>omega
theorem belowC_ok {c:Cur} {n:Int} (h:c.ok):(belowC c n).ok:=by
 unfold belowC
 split
 · exact h
 · exact byteC_ok h
theorem belowV_rng (c:Cur) {n:Int} (h:0<n):0≤belowV c n∧belowV c n<n:=by
 unfold belowV
 rw[if_neg (by omega)]
 have:=byteV_rng c
 rw[Int.tmod_eq_emod_of_nonneg this.1]
 exact⟨Int.emod_nonneg _ (by omega),Int.emod_lt_of_pos _ h⟩
theorem cur0_ok {bs:List Int} (h:bs.length≤1048576):(cur0 bs).ok:=⟨Nat.zero_le _,h⟩
theorem bytes_at {bs:List Int} {k:Nat} (h:k<bs.length):bs[k]? = some (bs.getD k 0):=by
 rw[List.getD_eq_getElem?_getD,List.getElem?_eq_getElem h];rfl
attribute [local simp] eByte
set_option maxRecDepth 100000 in
theorem l01New_conT (bs:List Int) (h:bs.length≤1048576):ConT Try.prog 29 [.d (.sl 5 (bs.map (e1 eByte)))] [] (.ptr 0 0) [enCur (cur0 bs)]:=by
 have hc:cur0 bs=⟨bs,0,hashK bs (min bs.length 4000)⟩:=rfl
 have h0:IntKind.i64.wrap (33117+bs.length)=hashK bs 0:=rfl
 rw[hc]
 refine conT_ofD (by kernel_rfl) Try.func29 rfl rfl rfl (by simp[laters,Later]) (by simp[lives,Slot.live]) ?_
 simp[h0]
 refine aw_loopU [true,false,false,true,true,false,false,false,false,false,false,false,false,false,false,false,false,false,false,false,false,false,false,false,false,false,false,false,false,false,false,false] (fun k:Nat=>k≤bs.length∧k≤4000) (fun k:Nat=>[(3,.d (.int .i64 (hashK bs k))),(4,.d (.int .i64 k))]) (fun k:Nat=>[]) (fun k:Nat=>4000 - k) 0 ?_ ?_ ?_
 · omega
 · exact⟨[],by simp⟩
 rintro I S μ hI hS hμ k ⟨hk1,hk2⟩
 by_cases hlt:k<bs.length
 · have hd:decide (k<bs.length)=true:=decide_eq_true hlt
   by_cases hl4:k<4000
   · have hd4:decide ((k:Int)<4000)=true:=decide_eq_true (by omega)
     have hl4':(k:Int)<4000:=by omega
     have hb:=bytes_at hlt
     have hn:hashK bs (k+1)=and64 (IntKind.i64.wrap (IntKind.i64.wrap (IntKind.i64.wrap (hashK bs k*131)+IntKind.i64.wrap (bs.getD k 0))+7)) 1073741823:=rfl
     have w2:IntKind.i64.wrap ((k:Int)+1)=(k:Int)+1:=wrap_id (by omega) (by omega)
     generalize bs.getD k 0=y at *
     simp[hd,hd4,hl4',hb,w2,←hn]
     exact round_of hI hS hμ (k+1) (by omega) (by omega) ⟨[],by simp⟩
   · obtain rfl:k=4000:=by omega
     have hm:min bs.length 4000=4000:=by omega
     rw[hm]
     have hd5:decide ((4000:Int)<(bs.length:Int))=true:=decide_eq_true (by omega)
     simp[hd,hd5]
     exact⟨[0],by simp⟩
 · obtain rfl:k=bs.length:=by omega
   have hm:min bs.length 4000=bs.length:=by omega
   rw[hm]
   simp[decide_eq_false hlt,hlt]
   exact⟨[0],by simp⟩
set_option maxRecDepth 100000 in
set_option maxHeartbeats 1000000 in
theorem l01Byte_conT (c:Cur) (h:c.ok):ConT Try.prog 99 [.ptr 0 0] [enCur c] (.d (.int .i64 (byteV c))) [enCur (byteC c)]:=by
 obtain⟨bs,i,hh⟩:=c
 obtain⟨h1,h2⟩:=h
 simp only at h1 h2
 have hm:IntKind.i64.wrap (IntKind.i64.wrap (hh*6364136223846793005)+1442695040888963407)=mixV ⟨bs,i,hh⟩:=rfl
 have hlo:and64 (xor64 (shr64 (mixV ⟨bs,i,hh⟩) 33) (shr64 (mixV ⟨bs,i,hh⟩) 45)) 255=lowV ⟨bs,i,hh⟩:=rfl
 have hv:byteV ⟨bs,i,hh⟩=if i<bs.length then and64 (w64 (lowV ⟨bs,i,hh⟩+w64 (bs.getD i 0))) 255 else lowV ⟨bs,i,hh⟩:=rfl
 have hcc:byteC ⟨bs,i,hh⟩=⟨bs,if i<bs.length then i+1 else i,mixV ⟨bs,i,hh⟩⟩:=rfl
 rw[hcc,hv]
 generalize mixV ⟨bs,i,hh⟩=m at *
 generalize lowV ⟨bs,i,hh⟩=lo at *
 have hb0:i<bs.length→bs[i]? = some (bs.getD i 0):=bytes_at
 generalize bs.getD i 0=y at *
 refine conT_ofD (by kernel_rfl) Try.func99 rfl rfl rfl (by simp[laters,Later]) (by simp[lives,Slot.live]) ?_
 simp[hm]
 refine drawD_of 13 (by kernel_rfl) ?_
 simp[hlo]
 by_cases hlt:i<bs.length
 · have hb:=hb0 hlt
   have w2:IntKind.i64.wrap ((i:Int)+1)=(i:Int)+1:=wrap_id (by omega) (by omega)
   have hw:IntKind.i64.wrap (lo+IntKind.i64.wrap y)=w64 (lo+w64 y):=rfl
   refine drawD_of 10 (by kernel_rfl) ?_
   simp[decide_eq_true hlt,hlt]
   refine drawD_of 15 (by kernel_rfl) ?_
   simp[hb,hw,w2]
   exact⟨[0],by simp⟩
 · refine drawD_of 10 (by kernel_rfl) ?_
   simp[decide_eq_false hlt,hlt]
   exact⟨[0],by simp⟩
theorem l01Below_conT (c:Cur) (n:Int) (h:c.ok) (hn:n≤256):ConT Try.prog 44 [.ptr 0 0,.d (.int .i64 n)] [enCur c] (.d (.int .i64 (belowV c n))) [enCur (belowC c n)]:=by
 have hb:=l01Byte_conT c h
 unfold belowV belowC
 refine conT_of (by kernel_rfl) Try.func44 rfl rfl rfl (by simp[laters,Later]) (by simp[lives,Slot.live]) ?_
 by_cases h0:n≤0
 · simp[h0]
   exact⟨[0],by simp⟩
 · simp[h0,show 0<n by omega,hn,show ¬ 256<n by omega]
   refine callT_step (hb) [] [0] (by simp) ?_
   simp[show ¬ n=0 by omega]
   exact⟨[0],by simp⟩
theorem l01Once_conT (c:Cur) (n:Int) (h:c.ok) (hn:n≤256):ConT Try.prog 78 [.ptr 0 0,.d (.int .i64 n)] [enCur c] (.d (.bool (onceV c n))) [enCur (belowC c n)]:=by
 have hb:=l01Below_conT c n h hn
 refine conT_of (by kernel_rfl) Try.func78 rfl rfl rfl (by simp[laters,Later]) (by simp[lives,Slot.live]) ?_
 simp
 refine callT_step (hb) [] [0] (by simp) ?_
 simp
 exact⟨[0],by simp[onceV]⟩
theorem l01PickInt_conT (c:Cur) (xs:List Int) (h:c.ok) (h0:0<xs.length) (hn:xs.length≤256):ConT Try.prog 98 [.ptr 0 0,.d (eSl 3 (e1 eInt) xs)] [enCur c] (.d (.int .i64 (xs.getD (belowV c xs.length).toNat 0))) [enCur (belowC c xs.length)]:=by
 have hb:=l01Below_conT c xs.length h (by omega)
 have hr:=belowV_rng c (n:=xs.length) (by omega)
 generalize belowV c xs.length=q at *
 generalize belowC c xs.length=c' at *
 obtain⟨k,rfl⟩:∃ k:Nat,q=k:=⟨q.toNat,by omega⟩
 have hg:xs[k]? = some (xs.getD k 0):=by rw[List.getD_eq_getElem?_getD,List.getElem?_eq_getElem (by omega)];rfl
 rw[Int.toNat_natCast]
 generalize xs.getD k 0=y at *
 refine conT_of (by kernel_rfl) Try.func98 rfl rfl rfl (by simp[laters,Later]) (by simp[lives,Slot.live]) ?_
 simp
 refine callT_step (hb) [] [0] (by simp) ?_
 simp[hg]
 exact⟨[0],by simp⟩
end Go.Proofs.Ytnjedabjbeipeaa
