/-
  Contracts of the laws' helpers over [][]int, by abstract walks.
  Conditions: those typed in each theorem.
-/
import Derived.Test.YtklhofpjjbfckaaNe
namespace Go.Proofs.Ytklhofpjjbfckaa
open Go.RowKit Go.ChangeShapes Go.WideShapes
set_option linter.unusedVariables false
set_option linter.unusedSimpArgs false
attribute [local simp ↓] condG_true condG_false condB_true condB_false
attribute [local simp] AWp_skip AWp_region_t AWp_region_d AWp_region_f still_mk AWp_seq AWp_cond condV_bool condB AWp_block AWp_exit AWp_ret
attribute [local simp] AOps_nil AOp_move AOp_assign AOp_pick AOp_binOp AOp_unOp AOp_convert AOp_len AOp_max AOp_min AOp_indexAddr AOp_load
attribute [local simp] AOp_fieldAddr AOp_field AOp_extract AOp_nilCheck AOp_build AOp_alloc AOp_box AOp_call AOp_store AOp_append AOp_buildSlice nextB_some
attribute [local simp] nextB_none adoptO adoptC AOp_makeSlice AOp_slice AOp_makeFunc AOp_guard guardD_some guardG_bool guardG_undef nextO_some nextS_some
attribute [local simp] nextZ_some nextL_some nextM_some nextT_some sliceO sliceL sliceT partO partV boundV funcO pickO
attribute [local simp] convO lenO maxO minO idxO extO nilO buildO litO litC makeO chunks
attribute [local simp] fillV placeOf thenA inBlockA St.get St.put St.eval ofCell evalT abin_add abin_sub abin_mul
attribute [local simp] abin_quo abin_rem abin_and abin_or abin_xor abin_andNot abin_shl abin_shr abin_shlu abin_eql abin_eqp abin_neq
attribute [local simp] abin_lss abin_leq abin_gtr abin_geq abin_eqlb abin_neqb aun pickV lenV intOf? indexV takeD
attribute [local simp] takeV loadV fieldAddrV fieldV ofX presD presDs pres presAll cellsV V.cell storeV
attribute [local simp] freezeC putAt kill takeC plains plainV scalarV nat_neg keepT sets eSl e1
attribute [local simp] e2 e3 e4 eInt eBool abinS_d abinS_agg abinS nilEq abin_eqb AOp_makeMap AOp_lookup
attribute [local simp] AOp_mapUpdate lookG_some updG_some mapV kyOf vlOf lookV vlV buildA afterCall inst inst1
attribute [local simp] inst1s instD instDs RetA resVs resV gives give1 give1s Le isPin leSlots
attribute [local simp] leS leTmps leV le0 le0s ren ren0 renS ren0s frame enterT afterT_some
attribute [local simp] afterC_some lives Slot.live arrsOk viewV view0 renT rens renSs setAll List.range'_succ RetT
attribute [local simp] RetW joinV leT AOpsE_nil AOpsE_cons AOpsT_nil AOpsT_cons isCallT isFnO callOf callVC_fn condC_true
attribute [local simp] condC_false beginT_mk thenT_mk pickE pickT isT loose namesOf namesV names1 names0 stableN
attribute [local simp] sameAt Op.operands Call.operands
abbrev RowD:Type:=List Int
def enRow (x:RowD):List D:=e1 (eSl 3 (e1 eInt)) x
abbrev erows (xs:List RowD):D:=eSl 26 enRow xs
abbrev irows (xs:List RowD):X:=.d (erows xs)
def szRowL (x:RowD) (l:Int):Int:=szL x.length l
def fitRw (m:Nat) (xs:List RowD):Prop:=xs.length≤m∧∀ x∈xs,x.length≤m
theorem szRows_con (xs:List RowD) (l:Int) (hx:fitRw 9223372036854775807 xs) (hl:0≤l∧l≤1048576) :
 ConC Try.prog 54 [irows xs,.d (.int .i64 l)] (.d (.int .i64 (szS szRowL xs l))):=by
 obtain⟨hx,hxs⟩:=hx
 refine con_of (by kernel_rfl) Try.func54 rfl rfl rfl ?_
 have w1:IntKind.i64.wrap (l - xs.length)=l - xs.length:=wrap_id (by omega) (by omega)
 simp[w1]
 constructor
 · intro h
   simp[szS,h]
 intro h
 refine aw_loopU [true,true,false,false,false,true,false,false,false,false,false,false,false,false,false,false,false,false,false,false,false,false,false,false,false,false,false] (fun i:Nat×Int=>i.1≤xs.length∧0≤i.2∧i.2≤1048576∧szGo szRowL (xs.drop i.1) i.2=szS szRowL xs l) (fun i:Nat×Int=>[(1,.d (.int .i64 i.2)),(5,.d (.int .i64 i.1))]) (fun i:Nat×Int=>[]) (fun i:Nat×Int=>xs.length - i.1) (0,l - xs.length) ?_ ?_ ?_
 · have:¬ l<xs.length:=by omega
   refine⟨by simp,by simp;omega,by simp;omega,?_⟩
   simp[szS]
   intro h2
   omega
 · exact⟨[],by simp⟩
 rintro I S μ hI hS hμ ⟨k,m⟩ ⟨hk,hm,hm2,hs⟩
 simp only at hk hm hm2 hs
 by_cases hlt:k<xs.length
 · have hx1:xs[k]? = some xs[k]:=List.getElem?_eq_getElem hlt
   have w2:IntKind.i64.wrap ((k:Int)+1)=(k:Int)+1:=wrap_id (by omega) (by omega)
   have hL:(enRow xs[k]).length=1:=rfl
   simp[hlt,hx1,w2,hL,enRow]
   refine call_step (szInts_con xs[k] m (hxs _ (List.getElem_mem hlt)) ⟨hm,hm2⟩) ?_
   simp[w2]
   rw[szGo_drop hx1] at hs
   have ho:=szL_or xs[k].length m
   refine⟨fun h=>?_,fun h=>round_of hI hS hμ (k+1,szRowL xs[k] m) ⟨by simp;omega,by simp[szRowL];omega,?_,?_⟩ (by simp;omega) ⟨[],by simp[szRowL]⟩⟩
   · rw[if_pos (by simp only[szRowL];omega)] at hs
     simp[←hs]
   · simp only[szRowL] at h ⊢;omega
   · rw[if_neg (by simp only[szRowL];omega)] at hs
     exact hs
 · have hk':k=xs.length:=by omega
   subst hk'
   simp[szGo] at hs
   simp[hlt,hs]
def zRow:List D:=enRow []
theorem toRows_con (xs:List RowD) (hx:fitRw 1048576 xs) :
 ConC Try.prog 56 [irows xs] (irows xs):=by
 obtain⟨hx,hxs⟩:=hx
 refine con_of (by kernel_rfl) Try.func56 rfl rfl rfl ?_
 simp
 refine⟨by omega,?_⟩
 refine aw_loopU [true,false,false,true,true,false,false,false,false,false,false,false,false,false,false,false,false,false,false,false,false,false,false] (fun k:Nat=>k≤xs.length) (fun k:Nat=>[(4,.d (.int .i64 k))]) (fun k:Nat=>[(0,.arr 26 true (mix (xs.map enRow) zRow k))]) (fun k:Nat=>xs.length - k) 0 ?_ ?_ ?_
 · simp
 · exact⟨[0],by simp[mix_zero,enRow,zRow]⟩
 rintro I S μ hI hS hμ k hk
 by_cases hlt:k<xs.length
 · have hx1:xs[k]? = some xs[k]:=List.getElem?_eq_getElem hlt
   have w2:IntKind.i64.wrap ((k:Int)+1)=(k:Int)+1:=wrap_id (by omega) (by omega)
   have m1:=mix_len (ys:=xs.map enRow) (z:=zRow) (k:=k) (by simp;omega)
   have m2:=mix_at (ys:=xs.map enRow) (z:=zRow) (k:=k) (by simp;omega)
   have m3:=mix_set (ys:=xs.map enRow) (z:=zRow) (k:=k) (y:=enRow xs[k]) (by simp[hx1])
   have hL:(enRow xs[k]).length=1:=rfl
   have hz:zRow.length=1:=rfl
   have hz2:zRow.drop 1=[]:=rfl
   have hd:decide (k<xs.length)=true:=decide_eq_true hlt
   rw[List.length_map] at m1
   simp only[enRow,e1,eInt,eSl] at m3
   simp[hd,hx1,w2,m1,m2,hL,enRow]
   refine call_step (toInts_con xs[k] (hxs _ (List.getElem_mem hlt))) ?_
   simp[w2,hd,m1,m2,enRow,hz,hz2,m3]
   exact round_of hI hS hμ (k+1) (by omega) (by omega) ⟨[0],by simp[enRow]⟩
 · have hk':k=xs.length:=by omega
   subst hk'
   have m4:=mix_all (ys:=xs.map enRow) (z:=zRow)
   rw[List.length_map] at m4
   simp[hlt,m4]
theorem eqRows_con (xs:List RowD) (hx:fitRw 1048576 xs) :
 ConC Try.prog 26 [irows xs,irows xs] (.d (.bool true)):=by
 obtain⟨hx,hxs⟩:=hx
 refine con_of (by kernel_rfl) Try.func26 rfl rfl rfl ?_
 simp
 refine aw_loopU [true,true,false,false,false,true,false,false,false,false,false,false,false,false,false,false,false,false,false,false,false,false,false,false,false,false,false] (fun k:Nat=>k≤xs.length) (fun k:Nat=>[(5,.d (.int .i64 k))]) (fun k:Nat=>[]) (fun k:Nat=>xs.length - k) 0 ?_ ?_ ?_
 · simp
 · exact⟨[],by simp⟩
 rintro I S μ hI hS hμ k hk
 by_cases hlt:k<xs.length
 · have hx1:xs[k]? = some xs[k]:=List.getElem?_eq_getElem hlt
   have w2:IntKind.i64.wrap ((k:Int)+1)=(k:Int)+1:=wrap_id (by omega) (by omega)
   have hL:(enRow xs[k]).length=1:=rfl
   simp[hlt,hx1,w2,hL,enRow]
   refine⟨by kernel_rfl,?_⟩
   refine call_step (eqInts_con xs[k] (hxs _ (List.getElem_mem hlt))) ?_
   simp[w2]
   exact round_of hI hS hμ (k+1) (by omega) (by omega) ⟨[],by simp⟩
 · have hk':k=xs.length:=by omega
   subst hk'
   simp[hlt]
theorem fitRw_of {w:World} {G:Nat→Prop} {x:List RowD} {v:Value} (h:Rd w G (erows x) v):fitRw 9223372036854775807 x:=by
 refine⟨h.fit,fun q hq=>?_⟩
 obtain⟨_,h4⟩:=h.sub (enRow q) (List.mem_map_of_mem hq) (eSl 3 (e1 eInt) q) (by simp[enRow,e1])
 exact h4.fit
theorem szRowL_le (x:RowD) (l:Int) (h:0≤l):szRowL x l≤l:=by unfold szRowL szL;split<;>omega
theorem fitRw_sz {x:List RowD} {l:Int} (h:0≤szS szRowL x l) (hl:0≤l∧l≤1048576):fitRw 1048576 x:=by
 obtain⟨b1,b2⟩:=szS_fit (fun x l=>szRowL_le x l) h
 refine⟨by omega,fun s hs=>?_⟩
 obtain⟨q,q1,q2,q3⟩:=b2 s hs
 unfold szRowL at q3
 have:=szL_fit (n:=s.length) (l:=q) (by first | exact q3|(split at q3<;>omega)|omega)
 omega
theorem op_irow:OpD Try.prog (eSl 3 (e1 eInt)) 26:=opd_sl Try.underlying26 (by simp) (fun x=>by simp[e1]) (ope_1 (opd_int Try.underlying3))
theorem op_rows:OpD Try.prog erows 45 :=
 opd_sl Try.underlying45 (by simp) (fun x=>by simp[enRow,e1]) (ope_1 op_irow)
end Go.Proofs.Ytklhofpjjbfckaa
