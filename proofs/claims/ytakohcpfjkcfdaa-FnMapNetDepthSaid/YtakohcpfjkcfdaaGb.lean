/-
  Selections of cuts, by abstract walks: the reference's unions and order.
  Conditions: those typed in each theorem.
-/
import Derived.Test.YtakohcpfjkcfdaaGa
import Derived.Test.YtakohcpfjkcfdaaNo
import Derived.Test.YtakohcpfjkcfdaaNi
namespace Go.Proofs.Ytakohcpfjkcfdaa
open Go.RowKit Go.ChangeShapes Go.WideShapes
set_option linter.unusedVariables false
set_option linter.unusedSimpArgs false
attribute [local simp ↓] condG_true condG_false condB_true condB_false
attribute [local simp] AWp_skip AWp_region_t AWp_region_d AWp_region_f still_mk AWp_seq AWp_cond condV_bool condB AWp_block AWp_exit AWp_ret
attribute [local simp] AOps_nil AOp_move AOp_assign AOp_pick AOp_binOp AOp_unOp AOp_convert AOp_len AOp_max AOp_min AOp_indexAddr AOp_load
attribute [local simp] AOp_fieldAddr AOp_field AOp_extract AOp_nilCheck AOp_build AOp_alloc AOp_box AOp_call AOp_store AOp_append AOp_buildSlice nextB_some
attribute [local simp] nextB_none adoptO adoptC AOp_makeSlice AOp_slice AOp_makeFunc AOp_guard guardD_some guardG_bool guardG_undef nextO_some nextS_some
attribute [local simp] nextZ_some nextL_some nextM_some nextT_some sliceO sliceL sliceT partO partV boundV funcO pickO
attribute [local simp] convO lenO maxO minO idxO extO nilO buildO litO litC makeO chunks
attribute [local simp] fillV placeOf thenA inBlockA St.get St.put St.eval ofCell evalT abin_add abin_sub abin_mul
attribute [local simp] abin_quo abin_rem abin_and abin_or abin_xor abin_andNot abin_shl abin_shr abin_shlu abin_eql abin_eqp abin_neq
attribute [local simp] abin_lss abin_leq abin_gtr abin_geq abin_eqlb abin_neqb aun pickV lenV intOf? indexV takeD
attribute [local simp] takeV loadV fieldAddrV fieldV ofX presD presDs pres presAll cellsV V.cell storeV
attribute [local simp] freezeC putAt kill takeC plains plainV scalarV nat_neg keepT sets eSl e1
attribute [local simp] e2 e3 e4 eInt eBool abinS_d abinS_agg abinS nilEq abin_eqb AOp_makeMap AOp_lookup
attribute [local simp] AOp_mapUpdate lookG_some updG_some mapV kyOf vlOf lookV vlV buildA afterCall inst inst1
attribute [local simp] inst1s instD instDs RetA resVs resV gives give1 give1s Le isPin leSlots
attribute [local simp] leS leTmps leV le0 le0s ren ren0 renS ren0s frame enterT afterT_some
attribute [local simp] afterC_some lives Slot.live arrsOk viewV view0 renT rens renSs setAll List.range'_succ RetT
attribute [local simp] RetW joinV leT AOpsE_nil AOpsE_cons AOpsT_nil AOpsT_cons isCallT isFnO callOf callVC_fn condC_true
attribute [local simp] condC_false beginT_mk thenT_mk pickE pickT isT loose namesOf namesV names1 names0 stableN
attribute [local simp] sameAt Op.operands Call.operands
theorem ascP_at {xs:List Int} (h:AscP xs) {i:Nat} {y z:Int} (h1:xs[i]? = some y) (h2:xs[i+1]? = some z):y<z:=by
 obtain⟨a,a'⟩:=List.getElem?_eq_some_iff.1 h1
 obtain⟨b,b'⟩:=List.getElem?_eq_some_iff.1 h2
 have:=List.pairwise_iff_getElem.1 h i (i+1) a b (by omega)
 rwa [a',b'] at this
set_option maxRecDepth 100000 in
theorem l13Strict_con (xs:List Int) (m:Nat) (h:RowP m xs):ConC Try.prog 97 [ints xs] (.d (.bool true)):=by
 obtain⟨h1,h2,h3⟩:=h
 refine con_of (by kernel_rfl) Try.func97 rfl rfl rfl ?_
 simp
 refine aw_loopU [true,false,false,true,false,false,false,false,false,false,false,false,false,false,false,false,false,false,false,false,false,false,false,false,false,false,false,false,false,false,false] (fun i:Nat=>i≤xs.length) (fun i:Nat=>[(3,.d (.int .i64 i))]) (fun i:Nat=>[]) (fun i:Nat=>xs.length - i) 0 ?_ ?_ ?_
 · exact Nat.zero_le _
 · exact⟨[],by simp⟩
 rintro I S μ hI hS hμ i hi
 by_cases hlt:i<xs.length
 · have hx1:xs[i]? = some xs[i]:=List.getElem?_eq_getElem hlt
   have hp:=(h3 _ (List.getElem_mem hlt)).1
   have wi:IntKind.i64.wrap ((i:Int)+1)=((i+1:Nat):Int):=by rw[wrap_id (by omega) (by omega)];omega
   cases i with
   | zero =>
     generalize xs[0]=y at *
     simp[hx1,decide_eq_true hlt]
     refine⟨by kernel_rfl,?_⟩
     simp[hx1,show ¬ y<0 by omega,decide_eq_false (show ¬ y<0 by omega),wi,show IntKind.i64.wrap 1=1 from rfl]
     exact round_of hI hS hμ 1 (by omega) (by omega) ⟨[],by simp⟩
   | succ j =>
     have hx0:xs[j]? = some (xs[j]'(by omega)):=List.getElem?_eq_getElem _
     have hlt2:=ascP_at h1 hx0 hx1
     generalize hyy:xs[j+1]=y at *
     generalize hzz:xs[j]'(by omega)=z at *
     obtain⟨i,hij⟩:∃ i,i=j+1:=⟨_,rfl⟩
     rw[←hij] at hx1 hlt wi hi ⊢
     have wj:IntKind.i64.wrap ((i:Int) - 1)=(j:Int):=by rw[wrap_id (by omega) (by omega)];omega
     have hi0:0<i:=by omega
     simp[hx1,decide_eq_true hlt]
     refine⟨by kernel_rfl,?_⟩
     simp[hx1,hx0,wj,show ¬ y<0 by omega,decide_eq_false (show ¬ y<0 by omega),hi0,decide_eq_true hi0,show ¬ y≤z by omega,decide_eq_false (show ¬ y≤z by omega),wi]
     exact round_of hI hS hμ (i+1) (by omega) (by omega) ⟨[],by simp⟩
 · obtain rfl:i=xs.length:=by omega
   simp[decide_eq_false hlt,hlt]
theorem lexB_drop {a b:List Int} {i:Nat} {x y:Int} (h1:a[i]? = some x) (h2:b[i]? = some y):lexB (a.drop i) (b.drop i)=if x=y then lexB (a.drop (i+1)) (b.drop (i+1)) else decide (x<y):=by
 obtain⟨p,p'⟩:=List.getElem?_eq_some_iff.1 h1
 obtain⟨q,q'⟩:=List.getElem?_eq_some_iff.1 h2
 rw[List.drop_eq_getElem_cons p,List.drop_eq_getElem_cons q,p',q']
 rfl
set_option maxRecDepth 100000 in
theorem sCutLess_con (a b:List Int) (ha:a.length≤1048576) (hb:b.length≤1048576):ConC Try.prog 98 [ints a,ints b] (.d (.bool (lessB a b))):=by
 have hB:lessB a b=if a.length=b.length then lexB a b else decide (a.length<b.length):=rfl
 refine con_of (by kernel_rfl) Try.func98 rfl rfl rfl ?_
 by_cases hl:a.length=b.length
 · rw[if_pos hl] at hB
   rw[hB]
   simp[bne,hl]
   refine aw_loopU [true,true,false,false,false,true,false,false,false,false,false,false,false,false,false,false,false,false,false,false,false,false,false,false,false,false,false,false,false,false,false,false,false,false,false,false,false,false,false,false] (fun i:Nat=>i≤a.length∧lexB (a.drop i) (b.drop i)=lexB a b) (fun i:Nat=>[(5,.d (.int .i64 i))]) (fun i:Nat=>[]) (fun i:Nat=>a.length - i) 0 ?_ ?_ ?_
   · exact⟨Nat.zero_le _,rfl⟩
   · exact⟨[],by simp⟩
   rintro I S μ hI hS hμ i ⟨hi,hd⟩
   by_cases hlt:i<a.length
   · have hx1:a[i]? = some a[i]:=List.getElem?_eq_getElem hlt
     have hx2:b[i]? = some (b[i]'(by omega)):=List.getElem?_eq_getElem _
     have hs:=lexB_drop hx1 hx2
     have wi:IntKind.i64.wrap ((i:Int)+1)=((i+1:Nat):Int):=by rw[wrap_id (by omega) (by omega)];omega
     generalize a[i]=x at *
     generalize b[i]'(by omega)=y at *
     have hlt2:i<b.length:=by omega
     rw[hd] at hs
     by_cases he:x=y
     · rw[if_pos he] at hs
       have hne:(x != y)=false:=by simp[he]
       simp[decide_eq_true hlt,decide_eq_true hlt2,hl]
       refine⟨by kernel_rfl,?_⟩
       simp[hx1,hx2,hne,wi]
       exact round_of hI hS hμ (i+1) ⟨by omega,hs.symm⟩ (by omega) ⟨[],by simp⟩
     · rw[if_neg he] at hs
       have hne:(x != y)=true:=by simp[he]
       rw[hs]
       simp[decide_eq_true hlt,decide_eq_true hlt2,hl]
       refine⟨by kernel_rfl,?_⟩
       simp[hx1,hx2,hne]
       kernel_rfl
   · obtain rfl:i=a.length:=by omega
     rw[List.drop_eq_nil_of_le (Nat.le_refl _)] at hd
     rw[←hd]
     have hlt2:¬ a.length<b.length:=by omega
     simp[decide_eq_false hlt,decide_eq_false hlt2,hlt,hl,lexB]
 · rw[if_neg hl] at hB
   rw[hB]
   have hne:((a.length:Int) != (b.length:Int))=true:=by simp;omega
   simp[hne]
set_option maxRecDepth 100000 in
theorem l13Within_con (v u:List Int) (hv:v.length≤1048576) (hu:u.length≤1048576):ConC Try.prog 95 [ints v,ints u] (.d (.bool (withinB v u))):=by
 have hW:∀ z,hasB u z=decide (z∈u):=fun _=>rfl
 refine con_of (by kernel_rfl) Try.func95 rfl rfl rfl ?_
 simp
 refine aw_loopU [true,true,false,false,false,true,false,false,false,false,false,false,false,false,false,false,false,false,false] (fun i:Nat=>i≤v.length∧withinB (v.take i) u=true) (fun i:Nat=>[(5,.d (.int .i64 i))]) (fun i:Nat=>[]) (fun i:Nat=>v.length - i) 0 ?_ ?_ ?_
 · exact⟨Nat.zero_le _,rfl⟩
 · exact⟨[],by simp⟩
 rintro I S μ hI hS hμ i ⟨hi,hd⟩
 by_cases hlt:i<v.length
 · have hx1:v[i]? = some v[i]:=List.getElem?_eq_getElem hlt
   have hs:=all_snoc' (p:=fun z=>decide (z∈u)) hx1
   have hn:=all_not' (p:=fun z=>decide (z∈u)) hx1
   have wi:IntKind.i64.wrap ((i:Int)+1)=((i+1:Nat):Int):=by rw[wrap_id (by omega) (by omega)];omega
   generalize v[i]=y at *
   have hc:=l13Has_con u y (by omega)
   rw[hW] at hc
   simp[decide_eq_true hlt,hx1]
   cases hy:decide (y∈u) with
   | true =>
     rw[hy] at hc
     refine call_step (hc) ?_
     simp[wi]
     exact round_of hI hS hμ (i+1) ⟨by omega,by unfold withinB at hd ⊢;rw[hs,hd,hy];rfl⟩ (by omega) ⟨[],by simp⟩
   | false =>
     rw[hy] at hc
     have:withinB v u=false:=hn hy
     rw[this]
     refine call_step (hc) ?_
     simp
 · obtain rfl:i=v.length:=by omega
   rw[List.take_length] at hd
   rw[hd]
   simp[decide_eq_false hlt,hlt]
theorem merge_drop {a b:List Int} {i j:Nat} {x y:Int} (h1:a[i]? = some x) (h2:b[j]? = some y) :
 mergeL (a.drop i) (b.drop j)=if x<y then x::mergeL (a.drop (i+1)) (b.drop j) else if y<x then y::mergeL (a.drop i) (b.drop (j+1)) else x::mergeL (a.drop (i+1)) (b.drop (j+1)):=by
 obtain⟨p,p'⟩:=List.getElem?_eq_some_iff.1 h1
 obtain⟨q,q'⟩:=List.getElem?_eq_some_iff.1 h2
 rw[List.drop_eq_getElem_cons p,List.drop_eq_getElem_cons q,p',q',mergeL_cons]
theorem merge_dropA {a b:List Int} {i:Nat} {x:Int} (h1:a[i]? = some x):mergeL (a.drop i) (b.drop b.length)=x::mergeL (a.drop (i+1)) (b.drop b.length):=by
 obtain⟨p,p'⟩:=List.getElem?_eq_some_iff.1 h1
 rw[List.drop_eq_nil_of_le (Nat.le_refl _),mergeL_nil,mergeL_nil,List.drop_eq_getElem_cons p,p']
theorem merge_dropB {a b:List Int} {j:Nat} {y:Int} (h1:b[j]? = some y):mergeL (a.drop a.length) (b.drop j)=y::mergeL (a.drop a.length) (b.drop (j+1)):=by
 obtain⟨p,p'⟩:=List.getElem?_eq_some_iff.1 h1
 rw[List.drop_eq_nil_of_le (Nat.le_refl _),mergeL_nil',mergeL_nil',List.drop_eq_getElem_cons p,p']
def mrgI (a b:List Int) (s:Nat×Nat×List Int):Prop:=s.1≤a.length∧s.2.1≤b.length∧s.2.2.length≤4∧s.2.2++mergeL (a.drop s.1) (b.drop s.2.1)=mergeL a b
theorem mergeO_some {a b:List Int} (h:(mergeL a b).length≤4):mergeO a b=some (mergeL a b):=if_pos h
theorem mergeO_none {a b:List Int} (h:¬ (mergeL a b).length≤4):mergeO a b=none:=if_neg h
set_option maxRecDepth 100000 in
set_option maxHeartbeats 4000000 in
theorem sMerge_con (a b:List Int) (m:Nat) (ha:RowP m a) (hb:RowP m b):ConC Try.prog 93 [ints a,ints b] (.tup [ints ((mergeO a b).getD []),.d (.bool (mergeO a b).isSome)]):=by
 have ka:=l13Strict_con a m ha
 have kb:=l13Strict_con b m hb
 have la:=ha.2.1
 have lb:=hb.2.1
 refine con_of (by kernel_rfl) Try.func93 rfl rfl rfl ?_
 simp
 refine call_step (ka) ?_
 simp
 refine call_step (kb) ?_
 simp
 refine aw_loopU [true,true,false,false,false,false,true,true,true,false,false,false,false,false,false,false,false,false,false,false,false,false,false,false,false,false,false,false,false,false,false,false,false,false,false,false,false,false,false,false,false,false,false,false,false,false,false,false,false,false,false,false,false,false,false,false,false,false,false,false,false,false,false,false,false,false,false,false,false,false,false,false,false,false,false,false,false,false,false,false,false,false,false,false,false,false,false,false,false,false,false,false,false,false,false,false,false,false,false,false,false] (fun s:Nat×Nat×List Int=>mrgI a b s) (fun s:Nat×Nat×List Int=>[(7,.d (.int .i64 s.1)),(8,.d (.int .i64 s.2.1))]) (fun s:Nat×Nat×List Int=>[(0,.arr 3 true (s.2.2.map (e1 eInt)))]) (fun s:Nat×Nat×List Int=>a.length - s.1+(b.length - s.2.1)) (0,0,[]) ?_ ?_ ?_
 · exact⟨Nat.zero_le _,Nat.zero_le _,by simp,rfl⟩
 · exact⟨[0],by simp⟩
 rintro I S μ hI hS hμ ⟨i,j,o⟩ ⟨hi,hj,ho,hm⟩
 simp only at hi hj ho hm
 have wi:IntKind.i64.wrap ((i:Int)+1)=((i+1:Nat):Int):=by rw[wrap_id (by omega) (by omega)];omega
 have wj:IntKind.i64.wrap ((j:Int)+1)=((j+1:Nat):Int):=by rw[wrap_id (by omega) (by omega)];omega
 by_cases hia:i<a.length
 · have hx1:a[i]? = some a[i]:=List.getElem?_eq_getElem hia
   have hie:((i:Int)==(a.length:Int))=false:=beq_eq_false_iff_ne.2 (by omega)
   generalize a[i]=x at *
   have hgt:o.length=4→(mergeO a b)=none:=fun h4=>mergeO_none (by
    rw[←hm,List.length_append]
    have h9:(mergeL (a.drop i) (b.drop j)).length≥(a.drop i).length:=(mergeL_len _ _ _ (Nat.le_refl _)).2.1
    rw[List.length_drop] at h9;omega)
   by_cases h4:o.length=4
   · rw[hgt h4]
     have h4e:((o.length:Int)==4)=true:=by rw[h4];rfl
     simp[decide_eq_true hia,h4e,h4]
   have h4e:((o.length:Int)==4)=false:=beq_eq_false_iff_ne.2 (by omega)
   by_cases hjb:j<b.length
   · have hx2:b[j]? = some b[j]:=List.getElem?_eq_getElem hjb
     have hje:((j:Int)==(b.length:Int))=false:=beq_eq_false_iff_ne.2 (by omega)
     generalize b[j]=y at *
     rw[merge_drop hx1 hx2] at hm
     by_cases hxy:x<y
     · rw[if_pos hxy] at hm
       simp[decide_eq_true hia,h4e]
       refine⟨by kernel_rfl,?_⟩
       simp[hje,hx1,hx2,decide_eq_true hia,hxy,decide_eq_true hxy]
       refine app_data vt_el_26 rfl (by simp) rfl (by simp) (by simp) (by first | (simp;done)|(simp;omega)) (by simp[flatP,flatD]) ?_
       simp[wi]
       exact round_of hI hS hμ (i+1,j,o++[x]) ⟨by simp only;omega,by simp only;omega,by simp;omega,by rw[List.append_assoc];exact hm⟩ (by simp;omega) ⟨[2],by simp[e1,eInt]⟩
     · rw[if_neg hxy] at hm
       by_cases hyx:y<x
       · rw[if_pos hyx] at hm
         simp[decide_eq_true hia,h4e]
         refine⟨by kernel_rfl,?_⟩
         simp[hje,hx1,hx2,decide_eq_true hia,hxy,decide_eq_false hxy]
         refine⟨by kernel_rfl,?_⟩
         simp[hie,hx1,hx2,hyx,decide_eq_true hyx,show ¬ x≤y by omega]
         refine app_data vt_el_26 rfl (by simp) rfl (by simp) (by simp) (by first | (simp;done)|(simp;omega)) (by simp[flatP,flatD]) ?_
         simp[wj]
         exact round_of hI hS hμ (i,j+1,o++[y]) ⟨by simp only;omega,by simp only;omega,by simp;omega,by rw[List.append_assoc];exact hm⟩ (by simp;omega) ⟨[2],by simp[e1,eInt]⟩
       · rw[if_neg hyx] at hm
         simp[decide_eq_true hia,h4e]
         refine⟨by kernel_rfl,?_⟩
         simp[hje,hx1,hx2,decide_eq_true hia,hxy,decide_eq_false hxy]
         refine⟨by kernel_rfl,?_⟩
         simp[hie,hx1,hx2,hyx,decide_eq_false hyx,show x≤y by omega]
         refine app_data vt_el_26 rfl (by simp) rfl (by simp) (by simp) (by first | (simp;done)|(simp;omega)) (by simp[flatP,flatD]) ?_
         simp[wi,wj]
         exact round_of hI hS hμ (i+1,j+1,o++[x]) ⟨by simp only;omega,by simp only;omega,by simp;omega,by rw[List.append_assoc];exact hm⟩ (by simp;omega) ⟨[2],by simp[e1,eInt]⟩
   · obtain rfl:j=b.length:=by omega
     have hje:((b.length:Int)==(b.length:Int))=true:=by simp
     rw[merge_dropA hx1] at hm
     simp[decide_eq_true hia,h4e]
     refine⟨by kernel_rfl,?_⟩
     simp[hx1]
     refine app_data vt_el_26 rfl (by simp) rfl (by simp) (by simp) (by first | (simp;done)|(simp;omega)) (by simp[flatP,flatD]) ?_
     simp[wi]
     exact round_of hI hS hμ (i+1,b.length,o++[x]) ⟨by simp only;omega,by simp only;omega,by simp;omega,by rw[List.append_assoc];exact hm⟩ (by simp;omega) ⟨[2],by simp[e1,eInt]⟩
 · obtain rfl:i=a.length:=by omega
   by_cases hjb:j<b.length
   · have hx2:b[j]? = some b[j]:=List.getElem?_eq_getElem hjb
     have hje:((j:Int)==(b.length:Int))=false:=beq_eq_false_iff_ne.2 (by omega)
     generalize b[j]=y at *
     have hgt:o.length=4→(mergeO a b)=none:=fun h4=>mergeO_none (by
      rw[←hm,List.length_append]
      have h9:(mergeL (a.drop a.length) (b.drop j)).length≥(b.drop j).length:=(mergeL_len _ _ _ (Nat.le_refl _)).2.2
      rw[List.length_drop] at h9;omega)
     by_cases h4:o.length=4
     · rw[hgt h4]
       have h4e:((o.length:Int)==4)=true:=by rw[h4];rfl
       simp[decide_eq_true hjb,h4e,h4]
     have h4e:((o.length:Int)==4)=false:=beq_eq_false_iff_ne.2 (by omega)
     rw[merge_dropB hx2] at hm
     simp[decide_eq_true hjb,h4e]
     refine⟨by kernel_rfl,?_⟩
     simp[hje,hx2]
     refine⟨by kernel_rfl,?_⟩
     refine app_data vt_el_26 rfl (by simp) rfl (by simp) (by simp) (by first | (simp;done)|(simp;omega)) (by simp[flatP,flatD]) ?_
     simp[wj]
     exact round_of hI hS hμ (a.length,j+1,o++[y]) ⟨by simp only;omega,by simp only;omega,by simp;omega,by rw[List.append_assoc];exact hm⟩ (by simp;omega) ⟨[2],by simp[e1,eInt]⟩
   · obtain rfl:j=b.length:=by omega
     rw[List.drop_eq_nil_of_le (Nat.le_refl _),List.drop_eq_nil_of_le (Nat.le_refl _),mergeL_nil,List.append_nil] at hm
     have hO:=mergeO_some (a:=a) (b:=b) (by rw[←hm];exact ho)
     rw[←hm] at hO
     rw[hO]
     simp
end Go.Proofs.Ytakohcpfjkcfdaa
