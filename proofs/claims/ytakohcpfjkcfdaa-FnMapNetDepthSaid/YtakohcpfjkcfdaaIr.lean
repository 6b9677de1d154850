/-
  The lists of cuts, by the program: the unions of two lists; all nodes. Abstract walks.
  Conditions: those typed in each theorem.
-/
import Derived.Test.YtakohcpfjkcfdaaIq
namespace Go.Proofs.Ytakohcpfjkcfdaa
open Go.RowKit Go.ChangeShapes Go.WideShapes
set_option linter.unusedVariables false
set_option linter.unusedSimpArgs false
attribute [local simp ↓] condG_true condG_false condB_true condB_false
attribute [local simp] AWp_skip AWp_region_t AWp_region_d AWp_region_f still_mk AWp_seq AWp_cond condV_bool condB AWp_block AWp_exit AWp_ret
attribute [local simp] AOps_nil AOp_move AOp_assign AOp_pick AOp_binOp AOp_unOp AOp_convert AOp_len AOp_max AOp_min AOp_indexAddr AOp_load
attribute [local simp] AOp_fieldAddr AOp_field AOp_extract AOp_nilCheck AOp_build AOp_alloc AOp_box AOp_call AOp_store AOp_append AOp_buildSlice nextB_some
attribute [local simp] nextB_none adoptO adoptC AOp_makeSlice AOp_slice AOp_makeFunc AOp_guard guardD_some guardG_bool guardG_undef nextO_some nextS_some
attribute [local simp] nextZ_some nextL_some nextM_some nextT_some sliceO sliceL sliceT partO partV boundV funcO pickO
attribute [local simp] convO lenO maxO minO idxO extO nilO buildO litO litC makeO chunks
attribute [local simp] fillV placeOf thenA inBlockA St.get St.put St.eval ofCell evalT abin_add abin_sub abin_mul
attribute [local simp] abin_quo abin_rem abin_and abin_or abin_xor abin_andNot abin_shl abin_shr abin_shlu abin_eql abin_eqp abin_neq
attribute [local simp] abin_lss abin_leq abin_gtr abin_geq abin_eqlb abin_neqb aun pickV lenV intOf? indexV takeD
attribute [local simp] takeV loadV fieldAddrV fieldV ofX presD presDs pres presAll cellsV V.cell storeV
attribute [local simp] freezeC putAt kill takeC plains plainV scalarV nat_neg keepT sets eSl e1
attribute [local simp] e2 e3 e4 eInt eBool abinS_d abinS_agg abinS nilEq abin_eqb AOp_makeMap AOp_lookup
attribute [local simp] AOp_mapUpdate lookG_some updG_some mapV kyOf vlOf lookV vlV buildA afterCall inst inst1
attribute [local simp] inst1s instD instDs RetA resVs resV gives give1 give1s Le isPin leSlots
attribute [local simp] leS leTmps leV le0 le0s ren ren0 renS ren0s frame enterT afterT_some
attribute [local simp] afterC_some lives Slot.live arrsOk viewV view0 renT rens renSs setAll List.range'_succ RetT
attribute [local simp] RetW joinV leT AOpsE_nil AOpsE_cons AOpsT_nil AOpsT_cons isCallT isFnO callOf callVC_fn condC_true
attribute [local simp] condC_false beginT_mk thenT_mk pickE pickT isT loose namesOf namesV names1 names0 stableN
attribute [local simp] sameAt Op.operands Call.operands
def lV (L:Rws):V:=if L=[] then .nil 26 else .ref 0
def lS (L:Rws):List Slot:=if L=[] then [] else [.arr 26 false (L.map enRow)]
theorem lV_row {L:Rws} (h:L≠[]):lV L=.ref 0:=if_neg h
theorem lS_row {L:Rws} (h:L≠[]):lS L=[.arr 26 false (L.map enRow)]:=if_neg h
theorem lV_nil:lV []=.nil 26:=rfl
theorem lS_nil:lS []=[]:=rfl
theorem insC_ne2 {l:Rws} {c:List Int}:insC l c≠[]:=by
 cases l with
 | nil=>simp[insC]
 | cons u l=>unfold insC;split<;>(try split)<;>simp
set_option maxRecDepth 100000 in
theorem iCutLess_con (a b:List Int) (ha:a.length≤1048576) (hb:b.length≤1048576):ConC Try.prog 90 [ints a,ints b] (.d (.bool (lessB a b))):=by
 have hB:lessB a b=if a.length=b.length then lexB a b else decide (a.length<b.length):=rfl
 refine con_of (by kernel_rfl) Try.func90 rfl rfl rfl ?_
 by_cases hl:a.length=b.length
 · rw[if_pos hl] at hB
   rw[hB]
   simp[bne,hl]
   refine aw_loopU [true,true,false,false,false,false,false,false,false,false,false,false,false,false,false,false,false,true,true,false,false,false,false,false,false,false,false,false,false,false,false,false,false,false,false,false,false,false,false,false] (fun i:Nat=>i≤a.length∧lexB (a.drop i) (b.drop i)=lexB a b) (fun i:Nat=>[(18,.d (.int .i64 i))]) (fun i:Nat=>[]) (fun i:Nat=>a.length - i) 0 ?_ ?_ ?_
   · exact⟨Nat.zero_le _,rfl⟩
   · exact⟨[],by simp⟩
   rintro I S μ hI hS hμ i ⟨hi,hd⟩
   by_cases hlt:i<a.length
   · have hx1:a[i]? = some a[i]:=List.getElem?_eq_getElem hlt
     have hx2:b[i]? = some (b[i]'(by omega)):=List.getElem?_eq_getElem _
     have hs:=lexB_drop hx1 hx2
     have wi:IntKind.i64.wrap ((i:Int)+1)=((i+1:Nat):Int):=by rw[wrap_id (by omega) (by omega)];omega
     generalize a[i]=x at *
     generalize b[i]'(by omega)=y at *
     have hlt2:i<b.length:=by omega
     rw[hd] at hs
     by_cases he:x=y
     · rw[if_pos he] at hs
       have hne:(x != y)=false:=by simp[he]
       simp[decide_eq_true hlt,decide_eq_true hlt2,hl]
       refine⟨by kernel_rfl,?_⟩
       simp[hx1,hx2,hne,wi]
       exact round_of hI hS hμ (i+1) ⟨by omega,hs.symm⟩ (by omega) ⟨[],by simp⟩
     · rw[if_neg he] at hs
       have hne:(x != y)=true:=by simp[he]
       rw[hs]
       simp[decide_eq_true hlt,decide_eq_true hlt2,hl]
       refine⟨by kernel_rfl,?_⟩
       simp[hx1,hx2,hne]
       kernel_rfl
   · obtain rfl:i=a.length:=by omega
     rw[List.drop_eq_nil_of_le (Nat.le_refl _)] at hd
     rw[←hd]
     have hlt2:¬ a.length<b.length:=by omega
     simp[decide_eq_false hlt,decide_eq_false hlt2,hlt,hl,lexB]
 · rw[if_neg hl] at hB
   rw[hB]
   have hne:((a.length:Int) != (b.length:Int))=true:=by simp;omega
   simp[hne]
set_option maxRecDepth 100000 in
theorem iContains_con (v u:List Int) (hv:v.length≤1048576) (hu:u.length≤1048576):ConC Try.prog 92 [ints u,ints v] (.d (.bool (withinB v u))):=by
 have hW:∀ z,hasB u z=decide (z∈u):=fun _=>rfl
 refine con_of (by kernel_rfl) Try.func92 rfl rfl rfl ?_
 simp
 refine aw_loopU [true,false,false,false,false,false,false,true,true,true,false,false,false,false,false,false,false,false] (fun i:Nat=>i≤v.length∧withinB (v.take i) u=true) (fun i:Nat=>[(9,.d (.int .i64 i))]) (fun i:Nat=>[]) (fun i:Nat=>v.length - i) 0 ?_ ?_ ?_
 · exact⟨Nat.zero_le _,rfl⟩
 · exact⟨[],by simp⟩
 rintro I S μ hI hS hμ i ⟨hi,hd⟩
 by_cases hlt:i<v.length
 · have hx1:v[i]? = some v[i]:=List.getElem?_eq_getElem hlt
   have hs:=all_snoc' (p:=fun z=>decide (z∈u)) hx1
   have hn:=all_not' (p:=fun z=>decide (z∈u)) hx1
   have wi:IntKind.i64.wrap ((i:Int)+1)=((i+1:Nat):Int):=by rw[wrap_id (by omega) (by omega)];omega
   generalize v[i]=y at *
   have hc:=hasInt_con u y (by omega)
   rw[hW] at hc
   simp[decide_eq_true hlt,hx1]
   cases hy:decide (y∈u) with
   | true =>
     rw[hy] at hc
     refine call_step (hc) ?_
     simp[wi]
     exact round_of hI hS hμ (i+1) ⟨by omega,by unfold withinB at hd ⊢;rw[hs,hd,hy];rfl⟩ (by omega) ⟨[],by simp⟩
   | false =>
     rw[hy] at hc
     have:withinB v u=false:=hn hy
     rw[this]
     refine call_step (hc) ?_
     simp
 · obtain rfl:i=v.length:=by omega
   rw[List.take_length] at hd
   rw[hd]
   simp[decide_eq_false hlt,hlt]
theorem sameInts_ne (a b:List Int) (ha:a.length≤1048576) (hb:b.length≤1048576) (hl:a.length≠b.length):ConC Try.prog 91 [ints a,ints b] (.d (.bool (sameB a b))):=by
 have hs:sameB a b=false:=decide_eq_false fun e=>hl (by rw[e])
 have hb1:((a.length:Int)==(b.length:Int))=false:=by simp;omega
 refine con_of (by kernel_rfl) Try.func91 rfl rfl rfl ?_
 simp[hl,hb1,hs]
 intro h
 exact absurd h (by omega)
theorem sameInts_all (a b:List Int) (ha:a.length≤1048576) (hb:b.length≤1048576):ConC Try.prog 91 [ints a,ints b] (.d (.bool (sameB a b))):=by
 by_cases hl:a.length=b.length
 · exact sameInts_con a b ha hl
 · exact sameInts_ne a b ha hb hl
set_option maxRecDepth 100000 in
set_option maxHeartbeats 8000000 in
theorem candidates_conT (a b:Rws) (m:Nat) (la:a.length≤8) (lb:b.length≤8) (ha:∀ x∈a,RowP m x) (hb:∀ y∈b,RowP m y):ConT Try.prog 83 [drows a,drows b] [] (drows ((candC a b).filter (keepB (candC a b)))) []:=by
 have hab:a.length*b.length≤64:=Nat.mul_le_mul la lb
 have hJ:candC a b=cndI a b a.length:=by unfold candC cndI;rw[List.take_length]
 rw[hJ]
 refine conT_ofD (by kernel_rfl) Try.func83 rfl rfl rfl (by simp[laters,Later]) (by simp[lives,Slot.live]) ?_
 simp[drows,drow]
 refine aw_loopN [false,true,false,false,false,true,false,false,false,false,false,false,false,false,false,false,false,false,false,true,true,true,false,false,false,false,false,false,false,false,false,false,false,false,false,false,false,false,false,false,false,false,false,false,false,false,false,false,false,false,false,false,false,false,false,false,false,false,false,false,false,false,false,false,false,false,false,false,false,false,false,false,false,false,false,false,false,false,false,false,false,false,false,false,false,false,false,false,false,false,false,false,false,false,false,false,false,false,false,false,false,false,false,false,false,false,false,false,false,false,false,false] (fun i:Nat=>i≤a.length) (fun i:Nat=>[(5,lV (cndI a b i)),(21,.d (.int .i64 i))]) (fun i:Nat=>fun _=>lS (cndI a b i)) (fun i:Nat=>a.length - i) 0 ?_ ?_ ?_
 · exact Nat.zero_le _
 · exact⟨[],by simp[cndI,lV,lS]⟩
 rintro I S μ hI hS hμ i hi
 by_cases hlt:i<a.length
 · have hx1:a[i]? = some a[i]:=List.getElem?_eq_getElem hlt
   have hxP:=ha _ (List.getElem_mem hlt)
   have hsI:=cndI_succ (b:=b) hx1
   have wi:IntKind.i64.wrap ((i:Int)+1)=((i+1:Nat):Int):=by rw[wrap_id (by omega) (by omega)];omega
   generalize a[i]=x at *
   have hLx:(enRow x).length=1:=rfl
   simp[decide_eq_true hlt,hx1,hLx,enRow,e1,eSl]
   refine aw_loopN [false,true,false,false,false,true,false,true,false,false,false,false,false,false,false,false,false,false,false,true,true,true,false,false,false,true,true,true,false,false,false,false,false,false,false,false,false,false,false,false,false,false,false,false,false,false,false,false,false,false,false,false,false,false,false,false,false,false,false,false,false,false,false,false,false,false,false,false,false,false,false,false,false,false,false,false,false,false,false,false,false,false,false,false,false,false,false,false,false,false,false,false,false,false,false,false,false,false,false,false,false,false,false,false,false,false,false,false,false,false,false,false] (fun j:Nat=>j≤b.length) (fun j:Nat=>[(5,lV (cndJ a b i x j)),(27,.d (.int .i64 j))]) (fun j:Nat=>fun _=>lS (cndJ a b i x j)) (fun j:Nat=>b.length - j) 0 ?_ ?_ ?_
   · exact Nat.zero_le _
   · have e:cndI a b i=cndJ a b i x 0:=rfl
     by_cases h0:cndJ a b i x 0=[]
     · rw[e,h0]
       exact⟨[],by simp[lV,lS]⟩
     · rw[e,lV_row h0,lS_row h0]
       exact⟨[0],by simp⟩
   rintro I1 S1 μ1 hI1 hS1 hμ1 j hj
   by_cases hlj:j<b.length
   · have hy1:b[j]? = some b[j]:=List.getElem?_eq_getElem hlj
     have hyP:=hb _ (List.getElem_mem hlj)
     have hsJ:=cndJ_succ (a:=a) (i:=i) (x:=x) hy1
     have wj:IntKind.i64.wrap ((j:Int)+1)=((j+1:Nat):Int):=by rw[wrap_id (by omega) (by omega)];omega
     obtain⟨g1,g2⟩:=cndJ_facts ha hb i hxP j
     generalize b[j]=y at *
     have hLy:(enRow y).length=1:=rfl
     have km:=iMerge_conT x y m hxP hyP
     obtain⟨l2,hl2⟩:∃ l2,cndJ a b i x (j+1)=l2:=⟨_,rfl⟩
     rw[hl2] at hsJ
     generalize cndJ a b i x j=L at *
     have dj:=decide_eq_true hlj
     by_cases h0:L=[]
     · subst h0
       rw[lV_nil,lS_nil]
       cases hm:mergeO x y with
       | none =>
         rw[hm] at km hsJ
         have hsJ':l2=[]:=hsJ
         simp[dj,hy1,hLy,enRow,e1,eSl]
         refine callT_step (km) [] [] (by simp) ?_
         simp[wj]
         exact round_of hI1 hS1 hμ1 (j+1) (by omega) (by omega) ⟨[],by simp[hl2,hsJ',lV_nil,lS_nil]⟩
       | some u =>
         rw[hm] at km hsJ
         have hsJ':l2=[u]:=hsJ
         have huP:=mergeO_row hxP hyP hm
         simp[dj,hy1,hLy,enRow,e1,eSl]
         refine callT_step (km) [] [] (by simp) ?_
         simp
         refine aw_loopN [false,true,false,false,false,true,false,true,false,false,true,false,true,false,false,false,false,false,false,true,true,true,false,false,false,true,true,true,false,false,false,false,false,false,false,false,false,false,false,false,false,false,false,false,false,false,false,false,false,false,false,false,false,false,false,false,false,false,false,false,false,false,false,false,false,false,false,false,false,false,false,false,false,false,false,false,false,false,false,false,false,false,false,false,false,false,false,false,false,false,false,false,false,false,false,false,false,false,false,false,false,false,false,false,false,false,false,false,false,false,false,false] (fun p:Nat=>p=0) (fun p:Nat=>[(12,.d (.int .i64 p))]) (fun p:Nat=>fun _=>[]) (fun p:Nat=>0) 0 ?_ ?_ ?_
         · rfl
         · exact⟨[],by simp⟩
         rintro I2 S2 μ2 hI2 hS2 hμ2 p rfl
         simp
         refine app_frozen (by exact rfl) vt_el_29 (by exact rfl) (by simp) (by simp[enRow,e1]) (by first | (simp;done)|(simp;omega)) ?_
         simp
         refine shift_step (dA:=68) (dB:=69) (dC:=70) (dD:=71) (dE:=72) (dF:=73) (dG:=74) (dH:=75) 1 26 _ 0 (by kernel_rfl) (by exact rfl) (by decide) (by simp) (by exact rfl) (by exact rfl) vt_el_29 (by simp) (by simp) (by kernel_rfl) (by exact rfl) (by simp) ?_
         simp[forgetL,shiftL_one,wj]
         exact round_of hI1 hS1 hμ1 (j+1) (by omega) (by omega) ⟨[1],by simp[hl2,hsJ',lV,lS,enRow,e1,eSl]⟩
     · rw[lV_row h0,lS_row h0]
       cases hm:mergeO x y with
       | none =>
         rw[hm] at km hsJ
         have hsJ':l2=L:=hsJ
         simp[dj,hy1,hLy,enRow,e1,eSl]
         refine callT_step (km) [] [] (by simp) ?_
         simp[wj]
         exact round_of hI1 hS1 hμ1 (j+1) (by omega) (by omega) ⟨[0],by simp[hl2,hsJ',lV_row h0,lS_row h0]⟩
       | some u =>
         rw[hm] at km hsJ
         have hsJ':l2=insC L u:=hsJ
         have huP:=mergeO_row hxP hyP hm
         have hne2:l2≠[]:=by rw[hsJ'];exact insC_ne2
         have hLl:L.length≤72:=by omega
         simp[dj,hy1,hLy,enRow,e1,eSl]
         refine callT_step (km) [] [] (by simp) ?_
         simp
         refine aw_loopN [false,true,false,false,false,true,false,true,false,false,true,false,true,false,false,false,false,false,false,true,true,true,false,false,false,true,true,true,false,false,false,false,false,false,false,false,false,false,false,false,false,false,false,false,false,false,false,false,false,false,false,false,false,false,false,false,false,false,false,false,false,false,false,false,false,false,false,false,false,false,false,false,false,false,false,false,false,false,false,false,false,false,false,false,false,false,false,false,false,false,false,false,false,false,false,false,false,false,false,false,false,false,false,false,false,false,false,false,false,false,false,false] (fun p:Nat=>p≤L.length∧∀ v∈L.take p,lessB v u=true) (fun p:Nat=>[(12,.d (.int .i64 p))]) (fun p:Nat=>fun _=>[.arr 26 false (L.map enRow)]) (fun p:Nat=>L.length - p) 0 ?_ ?_ ?_
         · exact⟨Nat.zero_le _,by simp⟩
         · exact⟨[0],by simp⟩
         rintro I2 S2 μ2 hI2 hS2 hμ2 p ⟨hp,hpa⟩
         by_cases hpl:p<L.length
         case neg =>
          obtain rfl:p=L.length:=by omega
          have hin:=insC_at hpa (.inl rfl)
          obtain⟨Z,hZ⟩:∃ Z,shiftL (L.map enRow++[[D.sl 0 []]]) L.length=Z:=⟨_,rfl⟩
          have hset:Z.set L.length [D.sl 3 (u.map (e1 eInt))]=l2.map enRow:=by rw[hsJ',hin,←hZ];exact shift_ins hp
          have hz3:Z.length=L.length+1:=by rw[←hZ,shiftL_len (by simp<;>omega)];simp
          have hpz:L.length<L.length+1:=by omega
          obtain⟨c0,hz1⟩:∃ c0,Z[L.length]? = some c0:=⟨_,List.getElem?_eq_getElem (by omega)⟩
          have hz2:c0.length=1:=by
           have h:=hz1
           rw[←hZ,shiftL_at (by simp) (by simp<;>omega),if_pos (Nat.le_refl _)] at h
           rcases List.mem_append.1 (List.mem_of_getElem? h) with h|h
           · exact enRow_mem _ h
           · simp at h;rw[h];rfl
          obtain⟨d0,rfl⟩:=List.length_eq_one_iff.1 hz2
          have hz4:Z[L.length]'(by omega)=[d0]:=Option.some.inj ((List.getElem?_eq_getElem (by omega)).symm.trans hz1)
          simp[hpl,decide_eq_false hpl]
          refine app_frozen (by exact rfl) vt_el_29 (by exact rfl) (by simp) (by simp[enRow,e1]) (by first | (simp;done)|(simp;omega)) ?_
          simp
          refine shift_step (dA:=68) (dB:=69) (dC:=70) (dD:=71) (dE:=72) (dF:=73) (dG:=74) (dH:=75) 2 26 _ L.length (by kernel_rfl) (by exact rfl) (by decide) (by simp) (by exact rfl) (by exact rfl) vt_el_29 (by simp) (by simp) (by kernel_rfl) (by exact rfl) (by simp) ?_
          simp[forgetL,hZ,hz1,hz4,hz3,hset,hpz,wj,enRow]
          exact round_of hI1 hS1 hμ1 (j+1) (by omega) (by omega) ⟨[2],by simp[hl2,lV_row hne2,lS_row hne2]⟩
         have hv1:L[p]? = some L[p]:=List.getElem?_eq_getElem hpl
         have hvP:=g1.all _ (List.getElem_mem hpl)
         have hts:=take_snoc' hv1
         have hin':lessB L[p] u=false→L[p]≠u→insC L u=L.take p++u::L.drop p:=fun h1 h2=>insC_at hpa (.inr ⟨_,hv1,h1,h2⟩)
         have hsm':L[p]=u→insC L u=L:=fun h=>insC_same hpa (h▸hv1)
         have hd2:=decide_eq_true hpl
         have w2:IntKind.i64.wrap ((p:Int)+1)=(p:Int)+1:=wrap_id (by omega) (by omega)
         generalize L[p]=v at *
         have hLv:(enRow v).length=1:=rfl
         have kl:=iCutLess_con v u (by have:=hvP.2.1;omega) (by have:=huP.2.1;omega)
         have ks:=sameInts_all v u (by have:=hvP.2.1;omega) (by have:=huP.2.1;omega)
         cases hb:lessB v u with
         | true =>
           rw[hb] at kl
           simp[hd2,hv1,hLv,enRow,e1,eSl]
           refine call_step (kl) ?_
           simp[w2]
           exact round_of hI2 hS2 hμ2 (p+1) ⟨by omega,fun z hz=>by
            rw[hts] at hz
            rcases List.mem_append.1 hz with hz|hz
            · exact hpa z hz
            · simp at hz;rw[hz];exact hb⟩ (by omega) ⟨[0],by simp⟩
         | false =>
           rw[hb] at kl
           by_cases he:v=u
           · have hB:sameB v u=true:=decide_eq_true he
             rw[hB] at ks
             have hq:l2=L:=by rw[hsJ',hsm' he]
             simp[hd2,hv1,hLv,enRow,e1,eSl]
             refine call_step (kl) ?_
             simp[hd2,hv1,hLv,enRow,e1,eSl]
             refine call_step (ks) ?_
             simp[wj]
             exact round_of hI1 hS1 hμ1 (j+1) (by omega) (by omega) ⟨[0],by simp[hl2,hq,lV_row h0,lS_row h0]⟩
           · have hB:sameB v u=false:=decide_eq_false he
             rw[hB] at ks
             have hin:=hin' hb he
             obtain⟨Z,hZ⟩:∃ Z,shiftL (L.map enRow++[[D.sl 0 []]]) p=Z:=⟨_,rfl⟩
             have hset:Z.set p [D.sl 3 (u.map (e1 eInt))]=l2.map enRow:=by rw[hsJ',hin,←hZ];exact shift_ins hp
             have hz3:Z.length=L.length+1:=by rw[←hZ,shiftL_len (by simp<;>omega)];simp
             have hpz:p<L.length+1:=by omega
             obtain⟨c0,hz1⟩:∃ c0,Z[p]? = some c0:=⟨_,List.getElem?_eq_getElem (by omega)⟩
             have hz2:c0.length=1:=by
              have h:=hz1
              rw[←hZ,shiftL_at (by simp<;>omega) (by simp<;>omega),if_pos (Nat.le_refl _)] at h
              rcases List.mem_append.1 (List.mem_of_getElem? h) with h|h
              · exact enRow_mem _ h
              · simp at h;rw[h];rfl
             obtain⟨d0,rfl⟩:=List.length_eq_one_iff.1 hz2
             have hz4:Z[p]'(by omega)=[d0]:=Option.some.inj ((List.getElem?_eq_getElem (by omega)).symm.trans hz1)
             simp[hd2,hv1,hLv,enRow,e1,eSl]
             refine call_step (kl) ?_
             simp[hd2,hv1,hLv,enRow,e1,eSl]
             refine call_step (ks) ?_
             simp
             refine app_frozen (by exact rfl) vt_el_29 (by exact rfl) (by simp) (by simp[enRow,e1]) (by first | (simp;done)|(simp;omega)) ?_
             simp
             refine shift_step (dA:=68) (dB:=69) (dC:=70) (dD:=71) (dE:=72) (dF:=73) (dG:=74) (dH:=75) 2 26 _ p (by kernel_rfl) (by exact rfl) (by decide) (by simp) (by exact rfl) (by exact rfl) vt_el_29 (by simp) (by simp) (by kernel_rfl) (by exact rfl) (by simp<;>omega) ?_
             simp[forgetL,hZ,hz1,hz4,hz3,hset,hpz,wj,enRow]
             exact round_of hI1 hS1 hμ1 (j+1) (by omega) (by omega) ⟨[2],by simp[hl2,lV_row hne2,lS_row hne2]⟩
   · obtain rfl:j=b.length:=by omega
     rw[←hsI]
     by_cases h0:cndI a b (i+1)=[]
     · rw[h0,lV_nil,lS_nil]
       simp[decide_eq_false hlj,hlj,wi]
       exact round_of hI hS hμ (i+1) (by omega) (by omega) ⟨[],by simp[h0,lV_nil,lS_nil]⟩
     · rw[lV_row h0,lS_row h0]
       simp[decide_eq_false hlj,hlj,wi]
       exact round_of hI hS hμ (i+1) (by omega) (by omega) ⟨[0],by simp[lV_row h0,lS_row h0]⟩
 obtain rfl:i=a.length:=by omega
 clear hI hS hμ
 obtain⟨g1,g2⟩:=cndI_facts ha hb a.length
 generalize cndI a b a.length=L at *
 have hL64:L.length≤64:=by omega
 have hfl:∀ k,(fltK L k).length≤64:=fun k=>by
  have:=List.length_filter_le (keepB L) (L.take k)
  have h2:(L.take k).length≤L.length:=by simp;omega
  unfold fltK
  omega
 have hend:fltK L L.length=L.filter (keepB L):=by unfold fltK;rw[List.take_length]
 by_cases h0:L=[]
 · subst h0
   rw[lV_nil,lS_nil]
   have hf0:([]:Rws).filter (keepB [])=[]:=rfl
   simp[decide_eq_false hlt,hlt]
   refine aw_loopN [false,false,false,false,false,true,false,false,false,false,false,false,false,true,false,false,false,false,false,false,false,false,false,false,false,false,false,false,false,false,false,false,false,false,false,false,false,false,false,false,false,false,false,false,false,false,false,false,false,false,false,false,false,false,false,false,false,false,false,false,false,false,false,false,false,false,false,false,false,false,false,false,false,false,false,false,false,false,false,false,false,false,true,true,true,false,false,false,false,false,false,false,false,false,false,false,false,false,false,false,false,false,false,false,false,false,false,false,false,false,false,false] (fun i:Nat=>i=0) (fun i:Nat=>[(84,.d (.int .i64 i))]) (fun i:Nat=>fun _=>[]) (fun i:Nat=>0) 0 ?_ ?_ ?_
   · rfl
   · exact⟨[],by simp⟩
   rintro I S μ hI hS hμ i rfl
   simp
   exact⟨[],by simp⟩
 rw[lV_row h0,lS_row h0]
 simp[decide_eq_false hlt,hlt]
 refine aw_loopN [false,false,false,false,false,true,false,false,false,false,false,false,false,true,false,false,false,false,false,false,false,false,false,false,false,false,false,false,false,false,false,false,false,false,false,false,false,false,false,false,false,false,false,false,false,false,false,false,false,false,false,false,false,false,false,false,false,false,false,false,false,false,false,false,false,false,false,false,false,false,false,false,false,false,false,false,false,false,false,false,false,false,true,true,true,false,false,false,false,false,false,false,false,false,false,false,false,false,false,false,false,false,false,false,false,false,false,false,false,false,false,false] (fun i:Nat=>i≤L.length) (fun i:Nat=>[(5,.d (.sl 26 (L.map enRow))),(82,.d (.sl 26 (L.map enRow))),(13,lV (fltK L i)),(84,.d (.int .i64 i))]) (fun i:Nat=>fun _=>lS (fltK L i)) (fun i:Nat=>L.length - i) 0 ?_ ?_ ?_
 · exact Nat.zero_le _
 · exact⟨[],by simp[fltK,lV,lS]⟩
 rintro I S μ hI hS hμ i hi
 by_cases hli:i<L.length
 case neg =>
  obtain rfl:i=L.length:=by omega
  rw[hend]
  by_cases h1:L.filter (keepB L)=[]
  · rw[h1,lV_nil,lS_nil]
    simp[decide_eq_false hli,hli]
    exact⟨[],by simp⟩
  · rw[lV_row h1,lS_row h1]
    simp[decide_eq_false hli,hli]
    exact⟨[],by simp⟩
 have hu1:L[i]? = some L[i]:=List.getElem?_eq_getElem hli
 have huP:=g1.all _ (List.getElem_mem hli)
 have hfs:=fltK_succ hu1
 have hf64:=hfl i
 have wi:IntKind.i64.wrap ((i:Int)+1)=((i+1:Nat):Int):=by rw[wrap_id (by omega) (by omega)];omega
 generalize L[i]=u at *
 have hLu:(enRow u).length=1:=rfl
 have dli:=decide_eq_true hli
 have hkd:keepB L u=allD L u L.length:=by unfold allD keepB;rw[List.take_length]
 obtain⟨o2,ho2⟩:∃ o2,fltK L (i+1)=o2:=⟨_,rfl⟩
 rw[ho2] at hfs
 generalize fltK L i=O at *
 obtain⟨vO,hvO⟩:∃ vO,lV O=vO:=⟨_,rfl⟩
 obtain⟨sO,hsO⟩:∃ sO,lS O=sO:=⟨_,rfl⟩
 by_cases h1:O=[]
 · subst h1
   rw[lV_nil,lS_nil]
   simp[dli,hu1,hLu,enRow,e1,eSl]
   refine aw_loopN [false,false,false,false,false,true,false,false,false,false,false,false,false,true,false,true,true,false,false,false,false,false,false,false,false,false,false,false,false,false,false,false,false,false,false,false,false,false,false,false,false,false,false,false,false,false,false,false,false,false,false,false,false,false,false,false,false,false,false,false,false,false,false,false,false,false,false,false,false,false,false,false,false,false,false,false,false,false,false,false,false,false,true,true,true,false,false,false,true,true,true,false,false,false,false,false,false,false,false,false,false,false,false,false,false,false,false,false,false,false,false,false] (fun k:Nat=>k≤L.length) (fun k:Nat=>[(16,.d (.bool (allD L u k))),(90,.d (.int .i64 k))]) (fun k:Nat=>fun _=>[]) (fun k:Nat=>L.length - k) 0 ?_ ?_ ?_
   · exact Nat.zero_le _
   · exact⟨[],by simp[allD]⟩
   rintro I3 S3 μ3 hI3 hS3 hμ3 k hk
   by_cases hlk:k<L.length
   case neg =>
    obtain rfl:k=L.length:=by omega
    rw[←hkd]
    cases hkp:keepB L u with
    | true =>
      rw[hkp,if_pos rfl] at hfs
      simp[decide_eq_false hlk,hlk]
      refine app_frozen (by exact rfl) vt_el_29 (by exact rfl) (by simp) (by simp[enRow,e1]) (by first | (simp;done)|(simp;omega)) ?_
      simp[wi]
      exact round_of hI hS hμ (i+1) (by omega) (by omega) ⟨[1],by simp[ho2,hfs,lV,lS,enRow,e1,eSl]⟩
    | false =>
      rw[hkp,if_neg (by simp)] at hfs
      simp[decide_eq_false hlk,hlk,wi]
      exact round_of hI hS hμ (i+1) (by omega) (by omega) ⟨[],by simp[ho2,hfs,lV,lS]⟩
   have hv1:L[k]? = some L[k]:=List.getElem?_eq_getElem hlk
   have hvP:=g1.all _ (List.getElem_mem hlk)
   have hds:=allD_succ (u:=u) hv1
   have wk:IntKind.i64.wrap ((k:Int)+1)=((k+1:Nat):Int):=by rw[wrap_id (by omega) (by omega)];omega
   generalize L[k]=v at *
   have hLv:(enRow v).length=1:=rfl
   have kw:=iContains_con v u (by have:=hvP.2.1;omega) (by have:=huP.2.1;omega)
   have hdm:domB v u=(decide (v.length<u.length)&&withinB v u):=rfl
   obtain⟨a2,ha2⟩:∃ a2,allD L u (k+1)=a2:=⟨_,rfl⟩
   rw[ha2] at hds
   have dlk:=decide_eq_true hlk
   by_cases hvu:v.length<u.length
   · rw[decide_eq_true hvu,Bool.true_and] at hdm
     rw[hdm] at hds
     cases hw:withinB v u with
     | true =>
       rw[hw] at kw hds
       simp[dlk,hv1,hLv,enRow,e1,eSl,decide_eq_true hvu]
       refine call_step (kw) ?_
       simp[wk]
       exact round_of hI3 hS3 hμ3 (k+1) (by omega) (by omega) ⟨[],by simp[ha2,hds]⟩
     | false =>
       rw[hw] at kw hds
       simp[dlk,hv1,hLv,enRow,e1,eSl,decide_eq_true hvu]
       refine call_step (kw) ?_
       simp[wk]
       exact round_of hI3 hS3 hμ3 (k+1) (by omega) (by omega) ⟨[],by simp[ha2,hds]⟩
   · rw[decide_eq_false hvu,Bool.false_and] at hdm
     rw[hdm] at hds
     simp[dlk,hv1,hLv,enRow,e1,eSl,decide_eq_false hvu,wk]
     exact round_of hI3 hS3 hμ3 (k+1) (by omega) (by omega) ⟨[],by simp[ha2,hds]⟩
 · rw[lV_row h1,lS_row h1]
   simp[dli,hu1,hLu,enRow,e1,eSl]
   refine aw_loopN [false,false,false,false,false,true,false,false,false,false,false,false,false,true,false,true,true,false,false,false,false,false,false,false,false,false,false,false,false,false,false,false,false,false,false,false,false,false,false,false,false,false,false,false,false,false,false,false,false,false,false,false,false,false,false,false,false,false,false,false,false,false,false,false,false,false,false,false,false,false,false,false,false,false,false,false,false,false,false,false,false,false,true,true,true,false,false,false,true,true,true,false,false,false,false,false,false,false,false,false,false,false,false,false,false,false,false,false,false,false,false,false] (fun k:Nat=>k≤L.length) (fun k:Nat=>[(16,.d (.bool (allD L u k))),(90,.d (.int .i64 k))]) (fun k:Nat=>fun _=>[.arr 26 false (O.map enRow)]) (fun k:Nat=>L.length - k) 0 ?_ ?_ ?_
   · exact Nat.zero_le _
   · exact⟨[0],by simp[allD]⟩
   rintro I3 S3 μ3 hI3 hS3 hμ3 k hk
   by_cases hlk:k<L.length
   case neg =>
    obtain rfl:k=L.length:=by omega
    rw[←hkd]
    cases hkp:keepB L u with
    | true =>
      rw[hkp,if_pos rfl] at hfs
      simp[decide_eq_false hlk,hlk]
      refine app_frozen (by exact rfl) vt_el_29 (by exact rfl) (by simp) (by simp[enRow,e1]) (by first | (simp;done)|(simp;omega)) ?_
      simp[wi]
      exact round_of hI hS hμ (i+1) (by omega) (by omega) ⟨[2],by simp[ho2,hfs,lV,lS,enRow,e1,eSl]⟩
    | false =>
      rw[hkp,if_neg (by simp)] at hfs
      simp[decide_eq_false hlk,hlk,wi]
      exact round_of hI hS hμ (i+1) (by omega) (by omega) ⟨[0],by simp[ho2,hfs,lV_row h1,lS_row h1]⟩
   have hv1:L[k]? = some L[k]:=List.getElem?_eq_getElem hlk
   have hvP:=g1.all _ (List.getElem_mem hlk)
   have hds:=allD_succ (u:=u) hv1
   have wk:IntKind.i64.wrap ((k:Int)+1)=((k+1:Nat):Int):=by rw[wrap_id (by omega) (by omega)];omega
   generalize L[k]=v at *
   have hLv:(enRow v).length=1:=rfl
   have kw:=iContains_con v u (by have:=hvP.2.1;omega) (by have:=huP.2.1;omega)
   have hdm:domB v u=(decide (v.length<u.length)&&withinB v u):=rfl
   obtain⟨a2,ha2⟩:∃ a2,allD L u (k+1)=a2:=⟨_,rfl⟩
   rw[ha2] at hds
   have dlk:=decide_eq_true hlk
   by_cases hvu:v.length<u.length
   · rw[decide_eq_true hvu,Bool.true_and] at hdm
     rw[hdm] at hds
     cases hw:withinB v u with
     | true =>
       rw[hw] at kw hds
       simp[dlk,hv1,hLv,enRow,e1,eSl,decide_eq_true hvu]
       refine call_step (kw) ?_
       simp[wk]
       exact round_of hI3 hS3 hμ3 (k+1) (by omega) (by omega) ⟨[0],by simp[ha2,hds]⟩
     | false =>
       rw[hw] at kw hds
       simp[dlk,hv1,hLv,enRow,e1,eSl,decide_eq_true hvu]
       refine call_step (kw) ?_
       simp[wk]
       exact round_of hI3 hS3 hμ3 (k+1) (by omega) (by omega) ⟨[0],by simp[ha2,hds]⟩
   · rw[decide_eq_false hvu,Bool.false_and] at hdm
     rw[hdm] at hds
     simp[dlk,hv1,hLv,enRow,e1,eSl,decide_eq_false hvu,wk]
     exact round_of hI3 hS3 hμ3 (k+1) (by omega) (by omega) ⟨[0],by simp[ha2,hds]⟩
end Go.Proofs.Ytakohcpfjkcfdaa
