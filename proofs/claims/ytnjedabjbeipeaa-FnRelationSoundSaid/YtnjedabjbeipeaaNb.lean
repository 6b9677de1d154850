/-
  Graphs: the count of nodes, roots, valid graphs, by abstract walks.
  Conditions: those typed in each theorem.
-/
import Derived.Test.YtnjedabjbeipeaaNa
namespace Go.Proofs.Ytnjedabjbeipeaa
open Go.RowKit Go.ChangeShapes Go.WideShapes
set_option linter.unusedVariables false
set_option linter.unusedSimpArgs false
attribute [local simp ↓] condG_true condG_false condB_true condB_false
attribute [local simp] AWp_skip AWp_region_t AWp_region_d AWp_region_f still_mk AWp_seq AWp_cond condV_bool condB AWp_block AWp_exit AWp_ret
attribute [local simp] AOps_nil AOp_move AOp_assign AOp_pick AOp_binOp AOp_unOp AOp_convert AOp_len AOp_max AOp_min AOp_indexAddr AOp_load
attribute [local simp] AOp_fieldAddr AOp_field AOp_extract AOp_nilCheck AOp_build AOp_alloc AOp_box AOp_call AOp_store AOp_append AOp_buildSlice nextB_some
attribute [local simp] nextB_none adoptO adoptC AOp_makeSlice AOp_slice AOp_makeFunc AOp_guard guardD_some guardG_bool guardG_undef nextO_some nextS_some
attribute [local simp] nextZ_some nextL_some nextM_some nextT_some sliceO sliceL sliceT partO partV boundV funcO pickO
attribute [local simp] convO lenO maxO minO idxO extO nilO buildO litO litC makeO chunks
attribute [local simp] fillV placeOf thenA inBlockA St.get St.put St.eval ofCell evalT abin_add abin_sub abin_mul
attribute [local simp] abin_quo abin_rem abin_and abin_or abin_xor abin_andNot abin_shl abin_shr abin_shlu abin_eql abin_eqp abin_neq
attribute [local simp] abin_lss abin_leq abin_gtr abin_geq abin_eqlb abin_neqb aun pickV lenV intOf? indexV takeD
attribute [local simp] takeV loadV fieldAddrV fieldV ofX presD presDs pres presAll cellsV V.cell storeV
attribute [local simp] freezeC putAt kill takeC plains plainV scalarV nat_neg keepT sets eSl e1
attribute [local simp] e2 e3 e4 eInt eBool abinS_d abinS_agg abinS nilEq abin_eqb AOp_makeMap AOp_lookup
attribute [local simp] AOp_mapUpdate lookG_some updG_some mapV kyOf vlOf lookV vlV buildA afterCall inst inst1
attribute [local simp] inst1s instD instDs RetA resVs resV gives give1 give1s Le isPin leSlots
attribute [local simp] leS leTmps leV le0 le0s ren ren0 renS ren0s frame enterT afterT_some
attribute [local simp] afterC_some lives Slot.live arrsOk viewV view0 renT rens renSs setAll List.range'_succ RetT
attribute [local simp] RetW joinV leT AOpsE_nil AOpsE_cons AOpsT_nil AOpsT_cons isCallT isFnO callOf callVC_fn condC_true
attribute [local simp] condC_false beginT_mk beginX_mk AOpsX_zero thenT_mk pickE pickT isT loose namesOf namesV names1
attribute [local simp] names0 stableN sameAt Op.operands Call.operands
abbrev igr (x:GrD):X:=.agg (enGr 31 60 x)
def nodesG (x:GrD):Int:=if rng x.1 0 20=true∧x.2.1.length≤12∧x.2.2.1.length≤300∧x.2.2.2.length≤16 then 1+x.1+x.2.1.length+x.2.2.1.length else 0
theorem iNodeCnt_con (x:GrD) (h1:0≤x.1∧x.1≤20) (h2:x.2.1.length≤12) (h3:x.2.2.1.length≤300) :
 ConC Try.prog 63 [igr x] (.d (.int .i64 (1+x.1+x.2.1.length+x.2.2.1.length))):=by
 refine con_of (by kernel_rfl) Try.func63 rfl rfl rfl ?_
 have w1:IntKind.i64.wrap (1+x.1)=1+x.1:=wrap_id (by omega) (by omega)
 have w2:IntKind.i64.wrap (1+x.1+x.2.1.length)=1+x.1+x.2.1.length:=wrap_id (by omega) (by omega)
 have w3:IntKind.i64.wrap (1+x.1+x.2.1.length+x.2.2.1.length)=1+x.1+x.2.1.length+x.2.2.1.length:=wrap_id (by omega) (by omega)
 simp[enGr,w1,w2,w3]
theorem iNodeCount_con (x:GrD):ConC Try.prog 89 [igr x] (.d (.int .i64 (nodesG x))):=by
 refine con_of (by kernel_rfl) Try.func89 rfl rfl rfl ?_
 simp[enGr]
 refine call_step (inr_con _ _ _) ?_
 skip
 unfold nodesG
 rcases Bool.eq_false_or_eq_true (rng x.1 0 20) with h1|h1
 case inr=>simp[h1]
 by_cases h2:x.2.1.length≤12
 case neg=>simp[h1,h2,show (12:Int)<x.2.1.length by omega]
 by_cases h3:x.2.2.1.length≤300
 case neg=>simp[h1,h2,h3,show ¬ (12:Int)<x.2.1.length by omega,show (300:Int)<x.2.2.1.length by omega]
 by_cases h4:x.2.2.2.length≤16
 case neg=>simp[h1,h2,h3,h4,show ¬ (12:Int)<x.2.1.length by omega,show ¬ (300:Int)<x.2.2.1.length by omega,show (16:Int)<x.2.2.2.length by omega]
 simp[h1,h2,h3,h4,show ¬ (12:Int)<x.2.1.length by omega,show ¬ (300:Int)<x.2.2.1.length by omega,show ¬ (16:Int)<x.2.2.2.length by omega]
 refine call_step (iNodeCnt_con x (by simpa [rng] using h1) h2 h3) ?_
 skip
 simp
theorem sNodeCount_con (x:GrD):ConC Try.prog 104 [igr x] (.d (.int .i64 (nodesG x))):=by
 refine con_of (by kernel_rfl) Try.func104 rfl rfl rfl ?_
 simp[enGr]
 refine call_step (sInr_con _ _ _) ?_
 simp
 unfold nodesG
 rcases Bool.eq_false_or_eq_true (rng x.1 0 20) with h1|h1
 case inr=>simp[h1]
 by_cases h2:x.2.1.length≤12
 case neg=>simp[h1,h2,show (12:Int)<x.2.1.length by omega]
 by_cases h3:x.2.2.1.length≤300
 case neg=>simp[h1,h2,h3,show ¬ (12:Int)<x.2.1.length by omega,show (300:Int)<x.2.2.1.length by omega]
 by_cases h4:x.2.2.2.length≤16
 case neg=>simp[h1,h2,h3,h4,show ¬ (12:Int)<x.2.1.length by omega,show ¬ (300:Int)<x.2.2.1.length by omega,show (16:Int)<x.2.2.2.length by omega,show ¬ (x.2.2.2.length:Int)≤16 by omega]
 have h0:=rng_iff.1 h1
 have w1:IntKind.i64.wrap (1+x.1)=1+x.1:=wrap_id (by omega) (by omega)
 have w2:IntKind.i64.wrap (1+x.1+x.2.1.length)=1+x.1+x.2.1.length:=wrap_id (by omega) (by omega)
 have w3:IntKind.i64.wrap (1+x.1+x.2.1.length+x.2.2.1.length)=1+x.1+x.2.1.length+x.2.2.1.length:=wrap_id (by omega) (by omega)
 simp[h1,h2,h3,h4,show ¬ (12:Int)<x.2.1.length by omega,show ¬ (300:Int)<x.2.2.1.length by omega,show ¬ (16:Int)<x.2.2.2.length by omega,w1,w2,w3]
theorem nodesG_pos {x:GrD} (h:nodesG x≠0):0≤x.1∧x.1≤20∧x.2.1.length≤12∧x.2.2.1.length≤300∧x.2.2.2.length≤16∧nodesG x=1+x.1+x.2.1.length+x.2.2.1.length:=by
 unfold nodesG at h ⊢
 split
 · rename_i hc
   have:=rng_iff.1 hc.1
   exact⟨this.1,this.2,hc.2.1,hc.2.2.1,hc.2.2.2,rfl⟩
 · rename_i hc;rw[if_neg hc] at h;exact absurd rfl h
theorem firstAnd_con (x:GrD) (h1:0≤x.1∧x.1≤20) (h2:x.2.1.length≤12):ConC Try.prog 61 [igr x] (.d (.int .i64 (1+x.1+x.2.1.length))):=by
 refine con_of (by kernel_rfl) Try.func61 rfl rfl rfl ?_
 have w1:IntKind.i64.wrap (1+x.1)=1+x.1:=wrap_id (by omega) (by omega)
 have w2:IntKind.i64.wrap (1+x.1+x.2.1.length)=1+x.1+x.2.1.length:=wrap_id (by omega) (by omega)
 simp[enGr,w1,w2]
theorem sFirst_con (x:GrD) (h1:0≤x.1∧x.1≤20) (h2:x.2.1.length≤12):ConC Try.prog 108 [igr x] (.d (.int .i64 (1+x.1+x.2.1.length))):=by
 refine con_of (by kernel_rfl) Try.func108 rfl rfl rfl ?_
 have w1:IntKind.i64.wrap (1+x.1)=1+x.1:=wrap_id (by omega) (by omega)
 have w2:IntKind.i64.wrap (1+x.1+x.2.1.length)=1+x.1+x.2.1.length:=wrap_id (by omega) (by omega)
 simp[enGr,w1,w2]
def isI (n:Int):Prop:=-9223372036854775808≤n∧n≤9223372036854775807
theorem sLit_con (n m:Int) (hn:isI n) (hm:0≤m∧m≤1048576):ConC Try.prog 107 [.d (.int .i64 n),.d (.int .i64 m)] (.d (.bool (rng n 0 (2*m - 1)))):=by
 refine con_of (by kernel_rfl) Try.func107 rfl rfl rfl ?_
 by_cases h0:0≤n
 · have hq:=quo2 h0 hn.2
   simp[h0,hq,rng]
   omega
 · simp[h0,rng]
def grK (x:GrD) (k:Nat):List Int:=x.2.2.2++((x.2.1.map (·.2.2)).take k).flatten
def grRoots (x:GrD):List Int:=x.2.2.2++(x.2.1.map (·.2.2)).flatten
theorem grK_snoc {x:GrD} {k:Nat} {s:SeqD} (h:x.2.1[k]? = some s):grK x (k+1)=grK x k++s.2.2:=by
 unfold grK
 rw[take_snoc' (x:=s.2.2) (by rw[List.getElem?_map,h];rfl),List.flatten_append,List.append_assoc]
 simp
theorem grK_all {x:GrD}:grK x x.2.1.length=grRoots x:=by
 unfold grK grRoots
 rw[List.take_of_length_le (by simp)]
theorem flat_take_len {ls:List (List Int)} {M:Nat} (h:∀ l∈ls,l.length≤M):∀ k:Nat,((ls.take k).flatten).length≤k*M
 | 0=>by simp
 | k+1=>by
   have ih:=flat_take_len h k
   cases hk:ls[k]? with
   | none =>
     have:=List.getElem?_eq_none_iff.1 hk
     rw[List.take_of_length_le (by omega)]
     rw[List.take_of_length_le (by omega)] at ih
     rw[Nat.succ_mul];omega
   | some l =>
     rw[take_snoc' hk,List.flatten_append,List.length_append,Nat.succ_mul]
     have:=h l (List.mem_of_getElem? hk)
     have e:[l].flatten.length=l.length:=by simp
     omega
theorem grK_len {x:GrD} {k M:Nat} (h:∀ s∈x.2.1,s.2.2.length≤M):(grK x k).length≤x.2.2.2.length+k*M:=by
 unfold grK
 rw[List.length_append]
 have:=flat_take_len (ls:=x.2.1.map (·.2.2)) (M:=M) (by intro l hl;obtain⟨s,hs,rfl⟩:=List.mem_map.1 hl;exact h s hs) k
 omega
theorem copyInts_con (xs:List Int) (h:xs.length≤1048576):ConC Try.prog 81 [.d (eSl 3 (e1 eInt) xs)] (.d (eSl 3 (e1 eInt) xs)):=by
 refine con_of (by kernel_rfl) Try.func81 rfl rfl rfl ?_
 simp
 refine app_data vt_el_26 rfl (by simp) rfl (by simp) (by simp) (by first | (simp;done)|(simp;omega)) (by simp[flatP,flatD]) ?_
 simp
theorem sRoots_con (x:GrD) (hx:fitGr 1048576 x) (hn:x.2.1.length≤12):ConC Try.prog 106 [igr x] (.d (eSl 3 (e1 eInt) (grRoots x))):=by
 obtain⟨f1,f2,f3,f5⟩:=hx
 refine con_of (by kernel_rfl) Try.func106 rfl rfl rfl ?_
 simp[enGr]
 refine app_data vt_el_26 rfl (by simp) rfl (by simp) (by simp) (by first | (simp;done)|(simp;omega)) (by simp[flatP,flatD]) ?_
 simp
 refine aw_loopU [false,true,false,true,true,false,false,false,false,false,false,false,false,false,false,false,false,false,false,false,false,false,false,false,false] (fun k:Nat=>k≤x.2.1.length) (fun k:Nat=>[(3,.ref 2),(4,.d (.int .i64 k))]) (fun k:Nat=>[(1,.dead),(2,.arr 3 true ((grK x k).map (e1 eInt)))]) (fun k:Nat=>x.2.1.length - k) 0 ?_ ?_ ?_
 · simp
 · exact⟨[0,1,2],by simp[grK]⟩
 rintro I S μ hI hS hμ k hk
 by_cases hlt:k<x.2.1.length
 · have hx1:x.2.1[k]? = some x.2.1[k]:=List.getElem?_eq_getElem hlt
   have hL:(enSeq x.2.1[k]).length=3:=rfl
   have w2:IntKind.i64.wrap ((k:Int)+1)=(k:Int)+1:=wrap_id (by omega) (by omega)
   have hl:=f2 _ (List.getElem_mem hlt)
   have hnext:=grK_snoc hx1
   have hrl:=grK_len (x:=x) (k:=k) (M:=1048576) f2
   generalize x.2.1[k]=s at *
   have hd:decide (k<x.2.1.length)=true:=decide_eq_true hlt
   simp[hd,hx1,hL,enSeq]
   refine app_data vt_el_26 rfl (by simp) rfl (by simp) (by simp) (by first | (simp;done)|(simp;omega)) (by simp[flatP,flatD]) ?_
   simp[w2]
   exact round_of hI hS hμ (k+1) (by omega) (by omega) ⟨[0,1,3],by simp[hnext]⟩
 · have hk':k=x.2.1.length:=by omega
   subst hk'
   have hr:grK x x.2.1.length=grRoots x:=grK_all
   simp[hlt,hr]
theorem iRoots_con (x:GrD) (hx:fitGr 1048576 x) (hn:x.2.1.length≤12):ConC Try.prog 91 [igr x] (.d (eSl 3 (e1 eInt) (grRoots x))):=by
 obtain⟨f1,f2,f3,f5⟩:=hx
 refine con_of (by kernel_rfl) Try.func91 rfl rfl rfl ?_
 simp[enGr]
 refine call_step (copyInts_con _ f5) ?_
 simp
 refine aw_loopU [false,false,false,true,false,false,false,false,false,false,true,true,true,false,false,false,false,false,false,false,false,false] (fun k:Nat=>k≤x.2.1.length) (fun k:Nat=>[(3,.ref 1),(12,.d (.int .i64 k))]) (fun k:Nat=>[(1,.arr 3 true ((grK x k).map (e1 eInt)))]) (fun k:Nat=>x.2.1.length - k) 0 ?_ ?_ ?_
 · simp
 · exact⟨[0,1],by simp[grK]⟩
 rintro I S μ hI hS hμ k hk
 by_cases hlt:k<x.2.1.length
 · have hx1:x.2.1[k]? = some x.2.1[k]:=List.getElem?_eq_getElem hlt
   have hL:(enSeq x.2.1[k]).length=3:=rfl
   have w2:IntKind.i64.wrap ((k:Int)+1)=(k:Int)+1:=wrap_id (by omega) (by omega)
   have hl:=f2 _ (List.getElem_mem hlt)
   have hnext:=grK_snoc hx1
   have hrl:=grK_len (x:=x) (k:=k) (M:=1048576) f2
   generalize x.2.1[k]=s at *
   have hd:decide (k<x.2.1.length)=true:=decide_eq_true hlt
   simp[hd,hx1,hL,enSeq]
   refine app_data vt_el_26 rfl (by simp) rfl (by simp) (by simp) (by first | (simp;done)|(simp;omega)) (by simp[flatP,flatD]) ?_
   simp[w2]
   exact round_of hI hS hμ (k+1) (by omega) (by omega) ⟨[0,3],by simp[hnext]⟩
 · have hk':k=x.2.1.length:=by omega
   subst hk'
   have hr:grK x x.2.1.length=grRoots x:=grK_all
   simp[hlt,hr]
end Go.Proofs.Ytnjedabjbeipeaa
