/-
  Values of nodes, and numbers of bits; small contracts, by abstract walks.
  Conditions: those typed in each theorem.
-/
import Derived.Test.YtnjedabjbeipeaaNs
namespace Go.Proofs.Ytnjedabjbeipeaa
open Go.RowKit Go.ChangeShapes Go.WideShapes
set_option linter.unusedVariables false
set_option linter.unusedSimpArgs false
attribute [local simp ↓] condG_true condG_false condB_true condB_false
attribute [local simp] AWp_skip AWp_region_t AWp_region_d AWp_region_f still_mk AWp_seq AWp_cond condV_bool condB AWp_block AWp_exit AWp_ret
attribute [local simp] AOps_nil AOp_move AOp_assign AOp_pick AOp_binOp AOp_unOp AOp_convert AOp_len AOp_max AOp_min AOp_indexAddr AOp_load
attribute [local simp] AOp_fieldAddr AOp_field AOp_extract AOp_nilCheck AOp_build AOp_alloc AOp_box AOp_call AOp_store AOp_append AOp_buildSlice nextB_some
attribute [local simp] nextB_none adoptO adoptC AOp_makeSlice AOp_slice AOp_makeFunc AOp_guard guardD_some guardG_bool guardG_undef nextO_some nextS_some
attribute [local simp] nextZ_some nextL_some nextM_some nextT_some sliceO sliceL sliceT partO partV boundV funcO pickO
attribute [local simp] convO lenO maxO minO idxO extO nilO buildO litO litC makeO chunks
attribute [local simp] fillV placeOf thenA inBlockA St.get St.put St.eval ofCell evalT abin_add abin_sub abin_mul
attribute [local simp] abin_quo abin_rem abin_and abin_or abin_xor abin_andNot abin_shl abin_shr abin_shlu abin_eql abin_eqp abin_neq
attribute [local simp] abin_lss abin_leq abin_gtr abin_geq abin_eqlb abin_neqb aun pickV lenV intOf? indexV takeD
attribute [local simp] takeV loadV fieldAddrV fieldV ofX presD presDs pres presAll cellsV V.cell storeV
attribute [local simp] freezeC putAt kill takeC plains plainV scalarV nat_neg keepT sets eSl e1
attribute [local simp] e2 e3 e4 eInt eBool abinS_d abinS_agg abinS nilEq abin_eqb AOp_makeMap AOp_lookup
attribute [local simp] AOp_mapUpdate lookG_some updG_some mapV kyOf vlOf lookV vlV buildA afterCall inst inst1
attribute [local simp] inst1s instD instDs RetA resVs resV gives give1 give1s Le isPin leSlots
attribute [local simp] leS leTmps leV le0 le0s ren ren0 renS ren0s frame enterT afterT_some
attribute [local simp] afterC_some lives Slot.live arrsOk viewV view0 renT rens renSs setAll List.range'_succ RetT
attribute [local simp] RetW joinV leT AOpsE_nil AOpsE_cons AOpsT_nil AOpsT_cons isCallT isFnO callOf callVC_fn condC_true
attribute [local simp] condC_false beginT_mk beginX_mk AOpsX_zero thenT_mk pickE pickT isT loose namesOf namesV names1
attribute [local simp] names0 stableN sameAt Op.operands Call.operands
abbrev ints (xs:List Int):X:=.d (eSl 3 (e1 eInt) xs)
def atI (lv:List Int) (k:Int):Int:=(lv[k.toNat]?).getD 0
theorem at_read {lv:List Int} {k:Int} (h:0≤k∧k<lv.length):lv[k.toNat]? = some (atI lv k):=by
 unfold atI
 rw[List.getElem?_eq_getElem (by omega)]
 rfl
def bitsI (vs:List Int):Prop:=∀ v∈vs,0≤v∧v≤1
theorem atI_bit {lv:List Int} (h:bitsI lv) (k:Int):0≤atI lv k∧atI lv k≤1:=by
 unfold atI
 cases hk:lv[k.toNat]? with
 | none=>simp
 | some v=>exact h v (List.mem_of_getElem? hk)
def packK (vs:List Int):Nat→Int
 | 0=>0
 | k+1=>packK vs k+(vs[k]?).getD 0*2 ^ k
def packL (vs:List Int):Int:=packK vs vs.length
theorem packK_lt {vs:List Int} (h:bitsI vs):∀ k,0≤packK vs k∧packK vs k<2 ^ k
 | 0=>by simp[packK]
 | k+1=>by
   have ih:=packK_lt h k
   have hb:0≤(vs[k]?).getD 0∧(vs[k]?).getD 0≤1:=by
    cases hk:vs[k]? with
    | none=>simp
    | some v=>exact h v (List.mem_of_getElem? hk)
   have hp:(2:Int) ^ (k+1)=2 ^ k*2:=Int.pow_succ 2 k
   unfold packK
   rcases bit_cases hb with h0|h0<;>rw[h0,hp]<;>constructor<;>omega
theorem packK_or {vs:List Int} {v:Int} {k:Nat} (h:bitsI vs) (hx:vs[k]? = some v) (hk:k≤60):or64 (packK vs k) (shl64 v k)=packK vs (k+1):=by
 have hv:=h v (List.mem_of_getElem? hx)
 rw[shl64_bit hv (by omega),or64_bit (packK_lt h k) hv (by omega)]
 simp[packK,hx]
theorem packK_add {vs:List Int} {v:Int} {k:Nat} (h:bitsI vs) (hx:vs[k]? = some v) (hk:k≤60):IntKind.i64.wrap (packK vs k+shl64 v k)=packK vs (k+1):=by
 have hv:=h v (List.mem_of_getElem? hx)
 rw[shl64_bit hv (by omega)]
 have e:packK vs k+v*2 ^ k=packK vs (k+1):=by simp[packK,hx]
 rw[e]
 have:=packK_lt h (k+1)
 have hp:=pow_le (k:=k+1) (n:=61) (by omega)
 exact wrap_id (by omega) (by omega)
theorem bitsI_map {α:Type} {f:α→Int} {xs:List α} (h:∀ x∈xs,0≤f x∧f x≤1):bitsI (xs.map f):=by
 intro v hv
 obtain⟨x,hx,rfl⟩:=List.mem_map.1 hv
 exact h x hx
def nodesIn (lv:List Int) (xs:List Int):Prop:=∀ y∈xs,0≤y∧y<lv.length
theorem packNodes_con (lv xs:List Int) (hl:bitsI lv) (hn:nodesIn lv xs) (hx:xs.length≤16) (hlv:lv.length≤1048576):ConC Try.prog 85 [ints lv,ints xs] (.d (.int .i64 (packL (xs.map (atI lv))))):=by
 obtain⟨vs,hvs⟩:∃ vs,vs=xs.map (atI lv):=⟨_,rfl⟩
 have hb:bitsI vs:=by rw[hvs];exact bitsI_map fun y _=>atI_bit hl y
 have hlen:vs.length=xs.length:=by simp[hvs]
 have hP:packL vs=packK vs xs.length:=by rw[packL,hlen]
 rw[←hvs,hP]
 refine con_of (by kernel_rfl) Try.func85 rfl rfl rfl ?_
 simp
 refine aw_loopU [true,false,false,false,false,true,false,false,true,true,true,false,false,false,false,false,false,false,false,false,false,false,false,false,false,false] (fun k:Nat=>k≤xs.length) (fun k:Nat=>[(5,.d (.int .i64 (packK vs k))),(10,.d (.int .i64 k))]) (fun k:Nat=>[]) (fun k:Nat=>xs.length - k) 0 ?_ ?_ ?_
 · simp
 · exact⟨[],by simp[packK]⟩
 rintro I S μ hI hS hμ k hk
 by_cases hlt:k<xs.length
 · have hx1:xs[k]? = some xs[k]:=List.getElem?_eq_getElem hlt
   have w2:IntKind.i64.wrap ((k:Int)+1)=(k:Int)+1:=wrap_id (by omega) (by omega)
   have hy:=hn _ (List.getElem_mem hlt)
   have hv1:vs[k]? = some (atI lv xs[k]):=by rw[hvs,List.getElem?_map,hx1];rfl
   generalize xs[k]=y at *
   have hd:decide (k<xs.length)=true:=decide_eq_true hlt
   have hr:=at_read hy
   have hor:=packK_or hb hv1 (by omega)
   have wk:IntKind.u64.wrap (k:Int)=k:=u64_id (by omega) (by omega)
   simp[hd,hx1,hr,show ¬ y<0 by omega,wk,hor,w2]
   exact round_of hI hS hμ (k+1) (by omega) (by omega) ⟨[],by simp⟩
 · have hk':k=xs.length:=by omega
   simp[hlt,hk']
theorem l20Pack_con (lv xs:List Int) (hl:bitsI lv) (hn:nodesIn lv xs) (hx:xs.length≤16) (hlv:lv.length≤1048576):ConC Try.prog 103 [ints lv,ints xs] (.d (.int .i64 (packL (xs.map (atI lv))))):=by
 obtain⟨vs,hvs⟩:∃ vs,vs=xs.map (atI lv):=⟨_,rfl⟩
 have hb:bitsI vs:=by rw[hvs];exact bitsI_map fun y _=>atI_bit hl y
 have hlen:vs.length=xs.length:=by simp[hvs]
 have hP:packL vs=packK vs xs.length:=by rw[packL,hlen]
 rw[←hvs,hP]
 refine con_of (by kernel_rfl) Try.func103 rfl rfl rfl ?_
 simp
 refine aw_loopU [true,true,false,false,false,true,true,false,false,false,false,false,false,false,false,false,false,false,false,false,false,false,false,false,false] (fun k:Nat=>k≤xs.length) (fun k:Nat=>[(5,.d (.int .i64 (packK vs k))),(6,.d (.int .i64 k))]) (fun k:Nat=>[]) (fun k:Nat=>xs.length - k) 0 ?_ ?_ ?_
 · simp
 · exact⟨[],by simp[packK]⟩
 rintro I S μ hI hS hμ k hk
 by_cases hlt:k<xs.length
 · have hx1:xs[k]? = some xs[k]:=List.getElem?_eq_getElem hlt
   have w2:IntKind.i64.wrap ((k:Int)+1)=(k:Int)+1:=wrap_id (by omega) (by omega)
   have hy:=hn _ (List.getElem_mem hlt)
   have hv1:vs[k]? = some (atI lv xs[k]):=by rw[hvs,List.getElem?_map,hx1];rfl
   generalize xs[k]=y at *
   have hd:decide (k<xs.length)=true:=decide_eq_true hlt
   have hr:=at_read hy
   have hor:=packK_add hb hv1 (by omega)
   simp[hd,hx1,hr,show ¬ y<0 by omega,hor,w2]
   exact round_of hI hS hμ (k+1) (by omega) (by omega) ⟨[],by simp⟩
 · have hk':k=xs.length:=by omega
   simp[hlt,hk']
def litL (lv:List Int) (l:Int):Int:=(atI lv (l / 2)+l % 2) % 2
theorem litL_01 (lv:List Int) (l:Int):0≤litL lv l∧litL lv l≤1:=by unfold litL;omega
def litsIn (lv:List Int) (xs:List Int):Prop:=∀ y∈xs,0≤y∧y<2*lv.length
theorem litValue_con (lv:List Int) (l:Int) (hl:bitsI lv) (hn:0≤l∧l<2*lv.length) (hlv:lv.length≤1048576):ConC Try.prog 131 [ints lv,.d (.int .i64 l)] (.d (.int .i64 (litL lv l))):=by
 refine con_of (by kernel_rfl) Try.func131 rfl rfl rfl ?_
 have hq:=quo2 hn.1 (by omega)
 have hr:=at_read (lv:=lv) (k:=l / 2) (by omega)
 have hb:=atI_bit hl (l / 2)
 have hx:xor64 (atI lv (l / 2)) (l % 2)=litL lv l:=by rw[xor64_bit hb (by omega)];rfl
 simp[hq,hr,show ¬ l / 2<0 by omega,and64_one,hx]
theorem l09Bit_con (lv:List Int) (l:Int) (hl:bitsI lv) (hn:0≤l∧l<2*lv.length) (hlv:lv.length≤1048576):ConC Try.prog 110 [ints lv,.d (.int .i64 l)] (.d (.int .i64 (litL lv l))):=by
 refine con_of (by kernel_rfl) Try.func110 rfl rfl rfl ?_
 have hq:=quo2 hn.1 (by omega)
 have hr:=at_read (lv:=lv) (k:=l / 2) (by omega)
 have hb:=atI_bit hl (l / 2)
 have hx:xor64 (atI lv (l / 2)) (l % 2)=litL lv l:=by rw[xor64_bit hb (by omega)];rfl
 simp[hq,hr,show ¬ l / 2<0 by omega,and64_one,hx]
theorem packLits_con (lv xs:List Int) (hl:bitsI lv) (hn:litsIn lv xs) (hx:xs.length≤16) (hlv:lv.length≤1048576):ConC Try.prog 88 [ints lv,ints xs] (.d (.int .i64 (packL (xs.map (litL lv))))):=by
 obtain⟨vs,hvs⟩:∃ vs,vs=xs.map (litL lv):=⟨_,rfl⟩
 have hb:bitsI vs:=by rw[hvs];exact bitsI_map fun y _=>litL_01 lv y
 have hlen:vs.length=xs.length:=by simp[hvs]
 have hP:packL vs=packK vs xs.length:=by rw[packL,hlen]
 rw[←hvs,hP]
 refine con_of (by kernel_rfl) Try.func88 rfl rfl rfl ?_
 simp
 refine aw_loopU [true,false,false,false,false,true,false,false,true,true,true,false,false,false,false,false,false,false,false,false,false,false,false,false,false] (fun k:Nat=>k≤xs.length) (fun k:Nat=>[(5,.d (.int .i64 (packK vs k))),(10,.d (.int .i64 k))]) (fun k:Nat=>[]) (fun k:Nat=>xs.length - k) 0 ?_ ?_ ?_
 · simp
 · exact⟨[],by simp[packK]⟩
 rintro I S μ hI hS hμ k hk
 by_cases hlt:k<xs.length
 · have hx1:xs[k]? = some xs[k]:=List.getElem?_eq_getElem hlt
   have w2:IntKind.i64.wrap ((k:Int)+1)=(k:Int)+1:=wrap_id (by omega) (by omega)
   have hy:=hn _ (List.getElem_mem hlt)
   have hv1:vs[k]? = some (litL lv xs[k]):=by rw[hvs,List.getElem?_map,hx1];rfl
   generalize xs[k]=y at *
   have hd:decide (k<xs.length)=true:=decide_eq_true hlt
   have hor:=packK_or hb hv1 (by omega)
   have wk:IntKind.u64.wrap (k:Int)=k:=u64_id (by omega) (by omega)
   simp[hd,hx1]
   refine call_step (litValue_con lv y hl hy hlv) ?_
   simp[wk,hor,w2]
   exact round_of hI hS hμ (k+1) (by omega) (by omega) ⟨[],by simp⟩
 · have hk':k=xs.length:=by omega
   simp[hlt,hk']
theorem l09Mask_con (lv xs:List Int) (hl:bitsI lv) (hn:litsIn lv xs) (hx:xs.length≤16) (hlv:lv.length≤1048576):ConC Try.prog 56 [ints lv,ints xs] (.d (.int .i64 (packL (xs.map (litL lv))))):=by
 obtain⟨vs,hvs⟩:∃ vs,vs=xs.map (litL lv):=⟨_,rfl⟩
 have hb:bitsI vs:=by rw[hvs];exact bitsI_map fun y _=>litL_01 lv y
 have hlen:vs.length=xs.length:=by simp[hvs]
 have hP:packL vs=packK vs xs.length:=by rw[packL,hlen]
 rw[←hvs,hP]
 refine con_of (by kernel_rfl) Try.func56 rfl rfl rfl ?_
 simp
 refine aw_loopU [true,true,false,false,false,true,true,false,false,false,false,false,false,false,false,false,false,false,false,false,false,false,false,false] (fun k:Nat=>k≤xs.length) (fun k:Nat=>[(5,.d (.int .i64 (packK vs k))),(6,.d (.int .i64 k))]) (fun k:Nat=>[]) (fun k:Nat=>xs.length - k) 0 ?_ ?_ ?_
 · simp
 · exact⟨[],by simp[packK]⟩
 rintro I S μ hI hS hμ k hk
 by_cases hlt:k<xs.length
 · have hx1:xs[k]? = some xs[k]:=List.getElem?_eq_getElem hlt
   have w2:IntKind.i64.wrap ((k:Int)+1)=(k:Int)+1:=wrap_id (by omega) (by omega)
   have hy:=hn _ (List.getElem_mem hlt)
   have hv1:vs[k]? = some (litL lv xs[k]):=by rw[hvs,List.getElem?_map,hx1];rfl
   generalize xs[k]=y at *
   have hd:decide (k<xs.length)=true:=decide_eq_true hlt
   have hor:=packK_add hb hv1 (by omega)
   simp[hd,hx1]
   refine call_step (l09Bit_con lv y hl hy hlv) ?_
   simp[hor,w2]
   exact round_of hI hS hμ (k+1) (by omega) (by omega) ⟨[],by simp⟩
 · have hk':k=xs.length:=by omega
   simp[hlt,hk']
def sameB (a b:List Int):Bool:=decide (a=b)
theorem sameB_take {a b:List Int} {k:Nat} (hl:a.length=b.length) (hk:k<a.length) (h:a.take k=b.take k) (he:a[k]? = b[k]?):a.take (k+1)=b.take (k+1):=by
 have h1:a[k]? = some a[k]:=List.getElem?_eq_getElem hk
 rw[take_snoc' h1,take_snoc' (xs:=b) (he▸h1),h]
theorem sameInts_con (a b:List Int) (ha:a.length≤1048576) (hl:a.length=b.length):ConC Try.prog 37 [ints a,ints b] (.d (.bool (sameB a b))):=by
 refine con_of (by kernel_rfl) Try.func37 rfl rfl rfl ?_
 simp[hl]
 refine aw_loopU [true,true,false,false,false,false,false,false,false,false,false,false,true,true,false,false,false,false,false,false,false,false,false,false,false,false] (fun k:Nat=>k≤a.length∧a.take k=b.take k) (fun k:Nat=>[(13,.d (.int .i64 k))]) (fun k:Nat=>[]) (fun k:Nat=>a.length - k) 0 ?_ ?_ ?_
 · simp
 · exact⟨[],by simp⟩
 rintro I S μ hI hS hμ k ⟨hk,ht⟩
 by_cases hlt:k<a.length
 · have hx1:a[k]? = some a[k]:=List.getElem?_eq_getElem hlt
   have hx2:b[k]? = some (b[k]'(by omega)):=List.getElem?_eq_getElem _
   have w2:IntKind.i64.wrap ((k:Int)+1)=(k:Int)+1:=wrap_id (by omega) (by omega)
   have hnx:a[k]? = b[k]?→a.take (k+1)=b.take (k+1):=sameB_take hl hlt ht
   have hno:a[k]?≠b[k]?→sameB a b=false:=fun h=>by
    cases hs:sameB a b with
    | false=>rfl
    | true=>exact absurd (congrArg (·[k]?) (of_decide_eq_true hs)) h
   rw[hx1,hx2] at hnx hno
   generalize a[k]=u at *
   generalize b[k]'(by omega)=v at *
   have hd:decide (k<a.length)=true:=decide_eq_true hlt
   have hd':decide (k<b.length)=true:=decide_eq_true (by omega)
   by_cases he:u=v
   · subst he
     simp[hd,hd',hx1,hx2,w2]
     exact⟨by kernel_rfl,round_of hI hS hμ (k+1) ⟨by omega,hnx rfl⟩ (by omega) ⟨[],by simp⟩⟩
   · have hn:=hno (by simpa using he)
     simp[hd,hd',hx1,hx2,he,hn]
     show _=true
     kernel_rfl
 · have hk':k=a.length:=by omega
   have hs:sameB a b=true:=by
    rw[hk',List.take_length,hl,List.take_length] at ht
    simpa [sameB] using ht
   simp[hlt,show ¬ k<b.length by omega,hs]
theorem l16Same_con (a b:List Int) (ha:a.length≤1048576) (hl:a.length=b.length):ConC Try.prog 46 [ints a,ints b] (.d (.bool (sameB a b))):=by
 refine con_of (by kernel_rfl) Try.func46 rfl rfl rfl ?_
 simp
 refine aw_loopU [true,true,false,false,false,true,false,false,false,false,false,false,false,false,false,false,false,false,false,false,false] (fun k:Nat=>k≤a.length∧a.take k=b.take k) (fun k:Nat=>[(5,.d (.int .i64 k))]) (fun k:Nat=>[]) (fun k:Nat=>a.length - k) 0 ?_ ?_ ?_
 · simp
 · exact⟨[],by simp⟩
 rintro I S μ hI hS hμ k ⟨hk,ht⟩
 by_cases hlt:k<a.length
 · have hx1:a[k]? = some a[k]:=List.getElem?_eq_getElem hlt
   have hx2:b[k]? = some (b[k]'(by omega)):=List.getElem?_eq_getElem _
   have w2:IntKind.i64.wrap ((k:Int)+1)=(k:Int)+1:=wrap_id (by omega) (by omega)
   have hnx:a[k]? = b[k]?→a.take (k+1)=b.take (k+1):=sameB_take hl hlt ht
   have hno:a[k]?≠b[k]?→sameB a b=false:=fun h=>by
    cases hs:sameB a b with
    | false=>rfl
    | true=>exact absurd (congrArg (·[k]?) (of_decide_eq_true hs)) h
   rw[hx1,hx2] at hnx hno
   generalize a[k]=u at *
   generalize b[k]'(by omega)=v at *
   have hd:decide (k<a.length)=true:=decide_eq_true hlt
   have hd':decide (k<b.length)=true:=decide_eq_true (by omega)
   by_cases he:u=v
   · subst he
     simp[hd,hd',hx1,hx2,w2]
     exact⟨by kernel_rfl,round_of hI hS hμ (k+1) ⟨by omega,hnx rfl⟩ (by omega) ⟨[],by simp⟩⟩
   · have hn:=hno (by simpa using he)
     simp[hd,hd',hx1,hx2,he,hn]
     show _=true
     kernel_rfl
 · have hk':k=a.length:=by omega
   have hs:sameB a b=true:=by
    rw[hk',List.take_length,hl,List.take_length] at ht
    simpa [sameB] using ht
   simp[hlt,hs]
theorem setI {lv:List Int} {i:Nat} {v:Int}:(lv.map (e1 eInt)).set i [.int .i64 v]=(lv.set i v).map (e1 eInt):=by rw[List.map_set];rfl
theorem bitsI_set {lv:List Int} {i:Nat} {v:Int} (h:bitsI lv) (hv:0≤v∧v≤1):bitsI (lv.set i v):=by
 intro y hy
 rcases List.mem_or_eq_of_mem_set hy with h1|rfl
 · exact h y h1
 · exact hv
def inK (N:Nat) (inp:Int):Nat→List Int
 | 0=>List.replicate N 0
 | k+1=>(inK N inp k).set (1+k) (bit inp k)
def stK (v0:List Int) (f:Nat) (st:List Int):Nat→List Int
 | 0=>v0
 | k+1=>(stK v0 f st k).set (f+k) ((st[k]?).getD 0 % 2)
theorem inK_len {N:Nat} {i:Int}:∀ k,(inK N i k).length=N
 | 0=>by simp[inK]
 | k+1=>by simp[inK,inK_len k]
theorem stK_len {v0:List Int} {f:Nat} {st:List Int}:∀ k,(stK v0 f st k).length=v0.length
 | 0=>rfl
 | k+1=>by simp[stK,stK_len k]
theorem inK_bits {N:Nat} {i:Int}:∀ k,bitsI (inK N i k)
 | 0=>by intro y hy;have:=List.eq_of_mem_replicate hy;omega
 | k+1=>bitsI_set (inK_bits k) (bit_01 _ _)
theorem stK_bits {v0:List Int} {f:Nat} {st:List Int} (h:bitsI v0):∀ k,bitsI (stK v0 f st k)
 | 0=>h
 | k+1=>bitsI_set (stK_bits h k) (by omega)
theorem mul_bit {a b:Int} (ha:0≤a∧a≤1) (hb:0≤b∧b≤1):0≤a*b∧a*b≤1:=by
 rcases bit_cases ha with rfl|rfl<;>simp<;>omega
theorem aw_loopN {P:Program} {m:Mode} {Q:Exit→St→Prop} {c:Code} {T:List V} {sl0:List Slot} {ι:Type} (mask:List Bool) (I:ι→Prop) (upd:ι→List (Nat×V)) (fsl:ι→List Slot→List Slot) (μ:ι→Nat) (i0:ι) (h0:I i0)
 (hle:Le m ⟨T,sl0⟩ ⟨sets (keepT mask T) (upd i0),fsl i0 sl0⟩)
 (hr:∀ (I':ι→Prop) (S':ι→St) (μ':ι→Nat),(∀ i,I' i↔I i)→(∀ i,S' i=⟨sets (keepT mask T) (upd i),fsl i sl0⟩)→(∀ i,μ' i=μ i)→∀ i,I i→AWp P m c (thenA (Round m I' S' μ' i) Q) ⟨sets (keepT mask T) (upd i),fsl i sl0⟩):AWp P m (.loop c) Q ⟨T,sl0⟩ :=
 aw_loop' I (fun i=>⟨sets (keepT mask T) (upd i),fsl i sl0⟩) μ i0 h0 hle hr
def nilR (k s:Nat):V:=if k=0 then .nil 3 else .ref s
def nilS (k:Nat) (xs:List Int) (sl:List Slot):List Slot:=if k=0 then sl else sl++[.arr 3 true (xs.map (e1 eInt))]
theorem seqOk_len {s:SeqD} (h:seqOkB s=true):s.2.2.length≤4:=by
 unfold seqOkB at h
 split at h
 · simp at h;omega
 · split at h
   · simp at h;omega
   · cases h
end Go.Proofs.Ytnjedabjbeipeaa
