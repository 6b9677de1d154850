/-
  The lists of cuts, by the program: parts. Plain lemmas and abstract walks.
  Conditions: those typed in each theorem.
-/
import Derived.Test.YtakohcpfjkcfdaaGc
import Derived.Test.YtakohcpfjkcfdaaNk
namespace Go.Proofs.Ytakohcpfjkcfdaa
open Go.RowKit Go.ChangeShapes Go.WideShapes
set_option linter.unusedVariables false
set_option linter.unusedSimpArgs false
attribute [local simp ↓] condG_true condG_false condB_true condB_false
attribute [local simp] AWp_skip AWp_region_t AWp_region_d AWp_region_f still_mk AWp_seq AWp_cond condV_bool condB AWp_block AWp_exit AWp_ret
attribute [local simp] AOps_nil AOp_move AOp_assign AOp_pick AOp_binOp AOp_unOp AOp_convert AOp_len AOp_max AOp_min AOp_indexAddr AOp_load
attribute [local simp] AOp_fieldAddr AOp_field AOp_extract AOp_nilCheck AOp_build AOp_alloc AOp_box AOp_call AOp_store AOp_append AOp_buildSlice nextB_some
attribute [local simp] nextB_none adoptO adoptC AOp_makeSlice AOp_slice AOp_makeFunc AOp_guard guardD_some guardG_bool guardG_undef nextO_some nextS_some
attribute [local simp] nextZ_some nextL_some nextM_some nextT_some sliceO sliceL sliceT partO partV boundV funcO pickO
attribute [local simp] convO lenO maxO minO idxO extO nilO buildO litO litC makeO chunks
attribute [local simp] fillV placeOf thenA inBlockA St.get St.put St.eval ofCell evalT abin_add abin_sub abin_mul
attribute [local simp] abin_quo abin_rem abin_and abin_or abin_xor abin_andNot abin_shl abin_shr abin_shlu abin_eql abin_eqp abin_neq
attribute [local simp] abin_lss abin_leq abin_gtr abin_geq abin_eqlb abin_neqb aun pickV lenV intOf? indexV takeD
attribute [local simp] takeV loadV fieldAddrV fieldV ofX presD presDs pres presAll cellsV V.cell storeV
attribute [local simp] freezeC putAt kill takeC plains plainV scalarV nat_neg keepT sets eSl e1
attribute [local simp] e2 e3 e4 eInt eBool abinS_d abinS_agg abinS nilEq abin_eqb AOp_makeMap AOp_lookup
attribute [local simp] AOp_mapUpdate lookG_some updG_some mapV kyOf vlOf lookV vlV buildA afterCall inst inst1
attribute [local simp] inst1s instD instDs RetA resVs resV gives give1 give1s Le isPin leSlots
attribute [local simp] leS leTmps leV le0 le0s ren ren0 renS ren0s frame enterT afterT_some
attribute [local simp] afterC_some lives Slot.live arrsOk viewV view0 renT rens renSs setAll List.range'_succ RetT
attribute [local simp] RetW joinV leT AOpsE_nil AOpsE_cons AOpsT_nil AOpsT_cons isCallT isFnO callOf callVC_fn condC_true
attribute [local simp] condC_false beginT_mk thenT_mk pickE pickT isT loose namesOf namesV names1 names0 stableN
attribute [local simp] sameAt Op.operands Call.operands
theorem insI_at {L:List Int} {x:Int}:∀ {p:Nat},(∀ v∈L.take p,v<x)→(p=L.length∨∃ v,L[p]? = some v∧x<v)→insI L x=L.take p++x::L.drop p:=by
 induction L with
 | nil=>intro p h1 h2;simp[insI]
 | cons y l ih =>
   intro p h1 h2
   cases p with
   | zero =>
     rcases h2 with h2|⟨v,hv,h2⟩
     · simp at h2
     · simp at hv
       subst hv
       unfold insI
       rw[if_neg (by omega),if_neg (by omega)]
       simp
   | succ p =>
     have hy:=h1 y (by simp)
     unfold insI
     rw[if_pos hy,ih (p:=p) (fun v hv=>h1 v (by simp[hv])) (by simpa using h2)]
     simp
theorem insI_same {L:List Int} {x:Int}:∀ {p:Nat},(∀ v∈L.take p,v<x)→L[p]? = some x→insI L x=L:=by
 induction L with
 | nil=>intro p h1 h2;simp at h2
 | cons y l ih =>
   intro p h1 h2
   cases p with
   | zero =>
     simp at h2
     subst h2
     unfold insI
     rw[if_neg (by omega),if_pos rfl]
   | succ p =>
     have hy:=h1 y (by simp)
     unfold insI
     rw[if_pos hy,ih (p:=p) (fun v hv=>h1 v (by simp[hv])) (by simpa using h2)]
theorem insC_at {L:Rws} {u:List Int} {p:Nat} (h1:∀ v∈L.take p,lessB v u=true) (h2:p=L.length∨∃ v,L[p]? = some v∧lessB v u=false∧v≠u):insC L u=L.take p++u::L.drop p:=by
 have e:insC L u=insC (L.take p++L.drop p) u:=by rw[List.take_append_drop]
 rw[e,insC_less h1]
 rcases h2 with rfl|⟨v,hv,h2,h3⟩
 · simp[insC]
 · obtain⟨hl,rfl⟩:=List.getElem?_eq_some_iff.1 hv
   rw[List.drop_eq_getElem_cons hl]
   unfold insC
   rw[if_neg (by simp[h2]),if_neg h3]
theorem insC_same {L:Rws} {u:List Int} {p:Nat} (h1:∀ v∈L.take p,lessB v u=true) (h2:L[p]? = some u):insC L u=L:=by
 have e:insC L u=insC (L.take p++L.drop p) u:=by rw[List.take_append_drop]
 obtain⟨hl,he⟩:=List.getElem?_eq_some_iff.1 h2
 rw[e,insC_less h1,List.drop_eq_getElem_cons hl,he]
 unfold insC
 rw[if_neg (by simp[lessB_irr]),if_pos rfl]
 conv=>rhs;rw[←List.take_append_drop p L,List.drop_eq_getElem_cons hl,he]
theorem shift_ins {L:Rws} {u:List Int} {p:Nat} {z:List D} (hp:p≤L.length):(shiftL (L.map enRow++[z]) p).set p (enRow u)=(L.take p++u::L.drop p).map enRow:=by
 have hl:(L.map enRow).length=L.length:=List.length_map _
 have h1:(L.map enRow++[z]).take (p+1)=(L.map enRow).take p++[(L.map enRow++[z])[p]'(by simp;omega)]:=by
  rw[take_snoc' (List.getElem?_eq_getElem (by simp;omega)),List.take_append_of_le_length (by omega)]
 have h2:((L.map enRow++[z]).drop p).take ((L.map enRow++[z]).length - p - 1)=(L.map enRow).drop p:=by
  rw[List.drop_append_of_le_length (by omega)]
  rw[List.take_append_of_le_length (by simp;omega),List.take_of_length_le (by simp;omega)]
 have h3:((L.map enRow).take p).length=p:=by simp;omega
 unfold shiftL
 rw[h1,h2,List.set_append_left _ _ (by simp;omega),List.set_append_right _ _ (by omega),h3]
 simp
theorem shiftL_one {z:List D}:shiftL [z] 0=[z]:=rfl
theorem insertInt_conT (L:List Int) (x:Int) (hL:L.length≤1048576):ConT Try.prog 96 [drow L,.d (.int .i64 x)] [] (drow (insI L x)) []:=by
 refine conT_of (by kernel_rfl) Try.func96 rfl rfl rfl (by simp[laters,Later]) (by simp[lives,Slot.live]) ?_
 simp[drow,eSl]
 refine aw_loopN [true,true,false,false,false,true,false,false,false,false,false,false,false,false,false,false,false,false,false,false,false,false,false,false,false,false,false,false,false,false,false,false,false,false,false,false,false,false,false,false,false,false,false,false,false,false,false,false] (fun p:Nat=>p≤L.length∧∀ v∈L.take p,v<x) (fun p:Nat=>[(0,drow L),(1,.d (.int .i64 x)),(5,.d (.int .i64 p))]) (fun p:Nat=>fun sl=>[]) (fun p:Nat=>L.length - p) 0 ?_ ?_ ?_
 · simp
 · exact⟨[],by simp⟩
 rintro I S μ hI hS hμ p ⟨hp,ha⟩
 by_cases hlt:p<L.length
 · have hx1:L[p]? = some L[p]:=List.getElem?_eq_getElem hlt
   have hd:=decide_eq_true hlt
   have w2:IntKind.i64.wrap ((p:Int)+1)=(p:Int)+1:=wrap_id (by omega) (by omega)
   have hin:x<L[p]→insI L x=L.take p++x::L.drop p:=fun h=>insI_at ha (.inr ⟨_,hx1,h⟩)
   have hsm:L[p]=x→insI L x=L:=fun h=>insI_same ha (h▸hx1)
   have hts:=take_snoc' hx1
   generalize L[p]=y at *
   by_cases hv:y<x
   · simp[hd,hx1,hv,w2,drow,eSl,e1,eInt]
     exact round_of hI hS hμ (p+1) ⟨by omega,fun v h=>by
      rw[hts] at h
      rcases List.mem_append.1 h with h|h
      · exact ha v h
      · simp at h;omega⟩ (by omega) ⟨[],by simp⟩
   · by_cases he:y=x
     · subst he
       have h2:=hsm rfl
       simp[hd,hx1,hv,h2,drow,eSl,e1,eInt]
       exact⟨[],by simp⟩
     · have h2:=hin (by omega)
       have hA:(L.map (e1 eInt)).take p=(L.take p).map (e1 eInt):=List.map_take.symm
       have hB:(L.map (e1 eInt)).drop p=(L.drop p).map (e1 eInt):=List.map_drop.symm
       have hC:(L.map (e1 eInt)).take L.length=L.map (e1 eInt):=List.take_of_length_le (by simp)
       have lA:(L.take p).length≤1048576:=by rw[List.length_take];omega
       have lB:(L.drop p).length≤1048576:=by rw[List.length_drop];omega
       generalize L.take p=A at *
       generalize L.drop p=B at *
       generalize insI L x=J at *
       simp[hd,hx1,hv,he,show (y==x)=false by simpa using he,drow,eSl,e1,eInt,hp,hA,hB]
       refine app_data vt_el_26 rfl (by simp) rfl (by simp) (by simp) (by first | (simp;done)|(simp;omega)) (by simp[flatP,flatD]) ?_
       simp
       refine app_data vt_el_26 rfl (by simp) rfl (by simp) (by simp) (by first | (simp;done)|(simp;omega)) (by simp[flatP,flatD]) ?_
       simp[hp,hC,hB]
       refine app_data vt_el_26 rfl (by simp) rfl (by simp) (by simp) (by first | (simp;done)|(simp;omega)) (by simp[flatP,flatD]) ?_
       simp[h2]
       exact⟨[],by simp[h2]⟩
 · obtain rfl:p=L.length:=by omega
   have h2:insI L x=L++[x]:=by rw[insI_at ha (.inl rfl)];simp
   have hA:(L.map (e1 eInt)).take L.length=L.map (e1 eInt):=List.take_of_length_le (by simp)
   have hB:(L.map (e1 eInt)).drop L.length=[]:=List.drop_of_length_le (by simp)
   generalize insI L x=J at *
   simp[hlt,decide_eq_false hlt,drow,eSl,hA,hB]
   refine app_data vt_el_26 rfl (by simp) rfl (by simp) (by simp) (by first | (simp;done)|(simp;omega)) (by simp[flatP,flatD]) ?_
   simp
   refine app_data vt_el_26 rfl (by simp) rfl (by simp) (by simp) (by first | (simp;done)|(simp;omega)) (by simp[flatP,flatD]) ?_
   simp[hA,hB]
   refine app_data vt_el_26 rfl (by simp) rfl (by simp) (by simp) (by first | (simp;done)|(simp;omega)) (by simp[flatP,flatD]) ?_
   simp[h2]
   exact⟨[],by simp[h2]⟩
theorem asc_row {m:Nat} {a:List Int} (h:RowP m a):ascB a=true:=by
 unfold ascB
 rw[List.all_eq_true]
 intro i hi
 have hi':=List.mem_range.1 hi
 have h1:a[i]? = some (a[i]'(by omega)):=List.getElem?_eq_getElem _
 have h2:a[i+1]? = some (a[i+1]'(by omega)):=List.getElem?_eq_getElem _
 have:=ascP_at h.1 h1 h2
 rw[atI_get h1,show ((i:Int)+1)=((i+1:Nat):Int) by omega,atI_get h2]
 exact decide_eq_true this
theorem iMerge_conT (a b:List Int) (m:Nat) (ha:RowP m a) (hb:RowP m b):ConT Try.prog 89 [drow a,drow b] [] (.tup [drow ((mergeO a b).getD []),.d (.bool (mergeO a b).isSome)]) []:=by
 have la:=ha.2.1
 have lb:=hb.2.1
 have k1:=iAsc_con a (by omega)
 have k2:=iAsc_con b (by omega)
 rw[asc_row ha] at k1
 rw[asc_row hb] at k2
 have pa:∀ y,a[0]? = some y→¬ y<0:=fun y h=>by have:=ha.2.2 y (List.mem_of_getElem? h);omega
 have pb:∀ y,b[0]? = some y→¬ y<0:=fun y h=>by have:=hb.2.2 y (List.mem_of_getElem? h);omega
 have kc:=copyInts_con a (by omega)
 have hfold:=fold_merge ha.1 hb.1
 have hlen:∀ k,((b.take k).foldl insI a).length≤4+k:=fun k=>by
  induction k with
  | zero=>simp;omega
  | succ k ih =>
    by_cases hk:k<b.length
    · rw[foldl_take2 (List.getElem?_eq_getElem hk)]
      have:=insI_len (a:=(b.take k).foldl insI a) (x:=b[k])
      omega
    · have e:b.take k=b:=List.take_of_length_le (by omega)
      have e2:b.take (k+1)=b:=List.take_of_length_le (by omega)
      rw[e] at ih
      rw[e2]
      omega
 have hOs:(mergeL a b).length≤4→mergeO a b=some (mergeL a b):=mergeO_some
 have hOn:¬ (mergeL a b).length≤4→mergeO a b=none:=mergeO_none
 generalize mergeO a b=o at *
 refine conT_of (by kernel_rfl) Try.func89 rfl rfl rfl (by simp[laters,Later]) (by simp[lives,Slot.live]) ?_
 simp[drow,eSl]
 refine call_step (k1) ?_
 simp[drow,eSl]
 refine call_step (k2) ?_
 simp[drow,eSl]
 by_cases za:0<a.length
 · by_cases zb:0<b.length
   · have ha1:a[0]? = some (a[0]'(by omega)):=List.getElem?_eq_getElem _
     have ha2:=pa _ ha1
     generalize a[0]'(by omega)=a0 at *
     have hb1:b[0]? = some (b[0]'(by omega)):=List.getElem?_eq_getElem _
     have hb2:=pb _ hb1
     generalize b[0]'(by omega)=b0 at *
     simp[decide_eq_true za,ha1,ha2,decide_eq_true zb,hb1,hb2]
     refine call_step (kc) ?_
     simp[drow,eSl,e1,eInt]
     refine aw_loopN [false,false,false,false,false,false,true,false,false,false,false,false,false,false,false,false,false,false,false,false,false,false,false,false,false,false,false,false,false,false,false,false,false,false,false,false,false,false,false,false,false,true,true,true,false,false,false,false,false,false,false,false,false,false,false] (fun k:Nat=>k≤b.length) (fun k:Nat=>[(6,.d (.sl 3 (((b.take k).foldl insI a).map (e1 eInt)))),(43,.d (.int .i64 k))]) (fun k:Nat=>fun _=>[]) (fun k:Nat=>b.length - k) 0 ?_ ?_ ?_
     · exact Nat.zero_le _
     · exact⟨[],by simp⟩
     rintro I S μ hI hS hμ k hk
     by_cases hlt:k<b.length
     · have hx1:b[k]? = some b[k]:=List.getElem?_eq_getElem hlt
       have hd:=decide_eq_true hlt
       have w2:IntKind.i64.wrap ((k:Int)+1)=(k:Int)+1:=wrap_id (by omega) (by omega)
       have hst:=foldl_take2 (f:=insI) (b:=a) hx1
       have hl:=hlen k
       generalize b[k]=y at *
       obtain⟨l2,hl2⟩:∃ l2,(b.take (k+1)).foldl insI a=l2:=⟨_,rfl⟩
       rw[hl2] at hst
       generalize (b.take k).foldl insI a=l1 at *
       have ki:=insertInt_conT l1 y (by omega)
       rw[←hst] at ki
       simp[hd,hx1]
       refine callT_step (ki) [] [] (by simp) ?_
       simp[w2]
       exact round_of hI hS hμ (k+1) (by omega) (by omega) ⟨[],by simp[hl2,drow,eSl]⟩
     · obtain rfl:k=b.length:=by omega
       rw[List.take_length,hfold]
       by_cases h4:(mergeL a b).length≤4
       · have ho:=hOs h4
         generalize mergeL a b=L at *
         have h4':¬ (4:Int)<(L.length:Int):=by omega
         have h4'':¬ 4<L.length:=by omega
         simp[hlt,h4',h4'',decide_eq_false h4'',ho]
         exact⟨[],by simp[ho]⟩
       · have ho:=hOn h4
         generalize mergeL a b=L at *
         have h4':(4:Int)<(L.length:Int):=by omega
         have h4'':4<L.length:=by omega
         simp[hlt,h4',h4'',decide_eq_true h4'',ho]
         exact⟨[],by simp[ho]⟩
   · have ha1:a[0]? = some (a[0]'(by omega)):=List.getElem?_eq_getElem _
     have ha2:=pa _ ha1
     generalize a[0]'(by omega)=a0 at *
     simp[decide_eq_true za,ha1,ha2,decide_eq_false zb]
     refine call_step (kc) ?_
     simp[drow,eSl,e1,eInt]
     refine aw_loopN [false,false,false,false,false,false,true,false,false,false,false,false,false,false,false,false,false,false,false,false,false,false,false,false,false,false,false,false,false,false,false,false,false,false,false,false,false,false,false,false,false,true,true,true,false,false,false,false,false,false,false,false,false,false,false] (fun k:Nat=>k≤b.length) (fun k:Nat=>[(6,.d (.sl 3 (((b.take k).foldl insI a).map (e1 eInt)))),(43,.d (.int .i64 k))]) (fun k:Nat=>fun _=>[]) (fun k:Nat=>b.length - k) 0 ?_ ?_ ?_
     · exact Nat.zero_le _
     · exact⟨[],by simp⟩
     rintro I S μ hI hS hμ k hk
     by_cases hlt:k<b.length
     · have hx1:b[k]? = some b[k]:=List.getElem?_eq_getElem hlt
       have hd:=decide_eq_true hlt
       have w2:IntKind.i64.wrap ((k:Int)+1)=(k:Int)+1:=wrap_id (by omega) (by omega)
       have hst:=foldl_take2 (f:=insI) (b:=a) hx1
       have hl:=hlen k
       generalize b[k]=y at *
       obtain⟨l2,hl2⟩:∃ l2,(b.take (k+1)).foldl insI a=l2:=⟨_,rfl⟩
       rw[hl2] at hst
       generalize (b.take k).foldl insI a=l1 at *
       have ki:=insertInt_conT l1 y (by omega)
       rw[←hst] at ki
       simp[hd,hx1]
       refine callT_step (ki) [] [] (by simp) ?_
       simp[w2]
       exact round_of hI hS hμ (k+1) (by omega) (by omega) ⟨[],by simp[hl2,drow,eSl]⟩
     · obtain rfl:k=b.length:=by omega
       rw[List.take_length,hfold]
       by_cases h4:(mergeL a b).length≤4
       · have ho:=hOs h4
         generalize mergeL a b=L at *
         have h4':¬ (4:Int)<(L.length:Int):=by omega
         have h4'':¬ 4<L.length:=by omega
         simp[hlt,h4',h4'',decide_eq_false h4'',ho]
         exact⟨[],by simp[ho]⟩
       · have ho:=hOn h4
         generalize mergeL a b=L at *
         have h4':(4:Int)<(L.length:Int):=by omega
         have h4'':4<L.length:=by omega
         simp[hlt,h4',h4'',decide_eq_true h4'',ho]
         exact⟨[],by simp[ho]⟩
 · by_cases zb:0<b.length
   · have hb1:b[0]? = some (b[0]'(by omega)):=List.getElem?_eq_getElem _
     have hb2:=pb _ hb1
     generalize b[0]'(by omega)=b0 at *
     simp[decide_eq_false za,decide_eq_true zb,hb1,hb2]
     refine call_step (kc) ?_
     simp[drow,eSl,e1,eInt]
     refine aw_loopN [false,false,false,false,false,false,true,false,false,false,false,false,false,false,false,false,false,false,false,false,false,false,false,false,false,false,false,false,false,false,false,false,false,false,false,false,false,false,false,false,false,true,true,true,false,false,false,false,false,false,false,false,false,false,false] (fun k:Nat=>k≤b.length) (fun k:Nat=>[(6,.d (.sl 3 (((b.take k).foldl insI a).map (e1 eInt)))),(43,.d (.int .i64 k))]) (fun k:Nat=>fun _=>[]) (fun k:Nat=>b.length - k) 0 ?_ ?_ ?_
     · exact Nat.zero_le _
     · exact⟨[],by simp⟩
     rintro I S μ hI hS hμ k hk
     by_cases hlt:k<b.length
     · have hx1:b[k]? = some b[k]:=List.getElem?_eq_getElem hlt
       have hd:=decide_eq_true hlt
       have w2:IntKind.i64.wrap ((k:Int)+1)=(k:Int)+1:=wrap_id (by omega) (by omega)
       have hst:=foldl_take2 (f:=insI) (b:=a) hx1
       have hl:=hlen k
       generalize b[k]=y at *
       obtain⟨l2,hl2⟩:∃ l2,(b.take (k+1)).foldl insI a=l2:=⟨_,rfl⟩
       rw[hl2] at hst
       generalize (b.take k).foldl insI a=l1 at *
       have ki:=insertInt_conT l1 y (by omega)
       rw[←hst] at ki
       simp[hd,hx1]
       refine callT_step (ki) [] [] (by simp) ?_
       simp[w2]
       exact round_of hI hS hμ (k+1) (by omega) (by omega) ⟨[],by simp[hl2,drow,eSl]⟩
     · obtain rfl:k=b.length:=by omega
       rw[List.take_length,hfold]
       by_cases h4:(mergeL a b).length≤4
       · have ho:=hOs h4
         generalize mergeL a b=L at *
         have h4':¬ (4:Int)<(L.length:Int):=by omega
         have h4'':¬ 4<L.length:=by omega
         simp[hlt,h4',h4'',decide_eq_false h4'',ho]
         exact⟨[],by simp[ho]⟩
       · have ho:=hOn h4
         generalize mergeL a b=L at *
         have h4':(4:Int)<(L.length:Int):=by omega
         have h4'':4<L.length:=by omega
         simp[hlt,h4',h4'',decide_eq_true h4'',ho]
         exact⟨[],by simp[ho]⟩
   · simp[decide_eq_false za,decide_eq_false zb]
     refine call_step (kc) ?_
     simp[drow,eSl,e1,eInt]
     refine aw_loopN [false,false,false,false,false,false,true,false,false,false,false,false,false,false,false,false,false,false,false,false,false,false,false,false,false,false,false,false,false,false,false,false,false,false,false,false,false,false,false,false,false,true,true,true,false,false,false,false,false,false,false,false,false,false,false] (fun k:Nat=>k≤b.length) (fun k:Nat=>[(6,.d (.sl 3 (((b.take k).foldl insI a).map (e1 eInt)))),(43,.d (.int .i64 k))]) (fun k:Nat=>fun _=>[]) (fun k:Nat=>b.length - k) 0 ?_ ?_ ?_
     · exact Nat.zero_le _
     · exact⟨[],by simp⟩
     rintro I S μ hI hS hμ k hk
     by_cases hlt:k<b.length
     · have hx1:b[k]? = some b[k]:=List.getElem?_eq_getElem hlt
       have hd:=decide_eq_true hlt
       have w2:IntKind.i64.wrap ((k:Int)+1)=(k:Int)+1:=wrap_id (by omega) (by omega)
       have hst:=foldl_take2 (f:=insI) (b:=a) hx1
       have hl:=hlen k
       generalize b[k]=y at *
       obtain⟨l2,hl2⟩:∃ l2,(b.take (k+1)).foldl insI a=l2:=⟨_,rfl⟩
       rw[hl2] at hst
       generalize (b.take k).foldl insI a=l1 at *
       have ki:=insertInt_conT l1 y (by omega)
       rw[←hst] at ki
       simp[hd,hx1]
       refine callT_step (ki) [] [] (by simp) ?_
       simp[w2]
       exact round_of hI hS hμ (k+1) (by omega) (by omega) ⟨[],by simp[hl2,drow,eSl]⟩
     · obtain rfl:k=b.length:=by omega
       rw[List.take_length,hfold]
       by_cases h4:(mergeL a b).length≤4
       · have ho:=hOs h4
         generalize mergeL a b=L at *
         have h4':¬ (4:Int)<(L.length:Int):=by omega
         have h4'':¬ 4<L.length:=by omega
         simp[hlt,h4',h4'',decide_eq_false h4'',ho]
         exact⟨[],by simp[ho]⟩
       · have ho:=hOn h4
         generalize mergeL a b=L at *
         have h4':(4:Int)<(L.length:Int):=by omega
         have h4'':4<L.length:=by omega
         simp[hlt,h4',h4'',decide_eq_true h4'',ho]
         exact⟨[],by simp[ho]⟩
end Go.Proofs.Ytakohcpfjkcfdaa
