/-
  Selections of cuts, by abstract walks: the reference's candidates and selections.
  Conditions: those typed in each theorem.
-/
import Derived.Test.YtakohcpfjkcfdaaGb
namespace Go.Proofs.Ytakohcpfjkcfdaa
open Go.RowKit Go.ChangeShapes Go.WideShapes
set_option linter.unusedVariables false
set_option linter.unusedSimpArgs false
attribute [local simp ↓] condG_true condG_false condB_true condB_false
attribute [local simp] AWp_skip AWp_region_t AWp_region_d AWp_region_f still_mk AWp_seq AWp_cond condV_bool condB AWp_block AWp_exit AWp_ret
attribute [local simp] AOps_nil AOp_move AOp_assign AOp_pick AOp_binOp AOp_unOp AOp_convert AOp_len AOp_max AOp_min AOp_indexAddr AOp_load
attribute [local simp] AOp_fieldAddr AOp_field AOp_extract AOp_nilCheck AOp_build AOp_alloc AOp_box AOp_call AOp_store AOp_append AOp_buildSlice nextB_some
attribute [local simp] nextB_none adoptO adoptC AOp_makeSlice AOp_slice AOp_makeFunc AOp_guard guardD_some guardG_bool guardG_undef nextO_some nextS_some
attribute [local simp] nextZ_some nextL_some nextM_some nextT_some sliceO sliceL sliceT partO partV boundV funcO pickO
attribute [local simp] convO lenO maxO minO idxO extO nilO buildO litO litC makeO chunks
attribute [local simp] fillV placeOf thenA inBlockA St.get St.put St.eval ofCell evalT abin_add abin_sub abin_mul
attribute [local simp] abin_quo abin_rem abin_and abin_or abin_xor abin_andNot abin_shl abin_shr abin_shlu abin_eql abin_eqp abin_neq
attribute [local simp] abin_lss abin_leq abin_gtr abin_geq abin_eqlb abin_neqb aun pickV lenV intOf? indexV takeD
attribute [local simp] takeV loadV fieldAddrV fieldV ofX presD presDs pres presAll cellsV V.cell storeV
attribute [local simp] freezeC putAt kill takeC plains plainV scalarV nat_neg keepT sets eSl e1
attribute [local simp] e2 e3 e4 eInt eBool abinS_d abinS_agg abinS nilEq abin_eqb AOp_makeMap AOp_lookup
attribute [local simp] AOp_mapUpdate lookG_some updG_some mapV kyOf vlOf lookV vlV buildA afterCall inst inst1
attribute [local simp] inst1s instD instDs RetA resVs resV gives give1 give1s Le isPin leSlots
attribute [local simp] leS leTmps leV le0 le0s ren ren0 renS ren0s frame enterT afterT_some
attribute [local simp] afterC_some lives Slot.live arrsOk viewV view0 renT rens renSs setAll List.range'_succ RetT
attribute [local simp] RetW joinV leT AOpsE_nil AOpsE_cons AOpsT_nil AOpsT_cons isCallT isFnO callOf callVC_fn condC_true
attribute [local simp] condC_false beginT_mk thenT_mk pickE pickT isT loose namesOf namesV names1 names0 stableN
attribute [local simp] sameAt Op.operands Call.operands
theorem insC_less:∀ {p q:Rws} {c:List Int},(∀ u∈p,lessB u c=true)→insC (p++q) c=p++insC q c
 | [],q,c,_=>rfl
 | u::p,q,c,h=>by
   have e:insC (u::p++q) c=if lessB u c=true then u::insC (p++q) c else if u=c then u::(p++q) else c::u::(p++q):=rfl
   rw[e,if_pos (h u (by simp)),insC_less fun v hv=>h v (by simp[hv])]
   rfl
theorem insC_done:∀ {p:Rws} {c u:List Int},(∃ v∈p,lessB v c=false)→insC (p++[u]) c=insC p c++[u]
 | [],c,u,h=>by obtain⟨v,hv,_⟩:=h;cases hv
 | w::p,c,u,h=>by
   have e:insC (w::p++[u]) c=if lessB w c=true then w::insC (p++[u]) c else if w=c then w::(p++[u]) else c::w::(p++[u]):=rfl
   have e2:insC (w::p) c=if lessB w c=true then w::insC p c else if w=c then w::p else c::w::p:=rfl
   rw[e,e2]
   by_cases hw:lessB w c=true
   · rw[if_pos hw,if_pos hw,insC_done]
     · rfl
     · obtain⟨v,hv,hl⟩:=h
       rcases List.mem_cons.1 hv with rfl|hv
       · rw[hw] at hl;cases hl
       · exact⟨v,hv,hl⟩
   · rw[if_neg hw,if_neg hw]
     split<;>rfl
def dnB (l:Rws) (c:List Int) (i:Nat):Bool:=(l.take i).any fun u=>!lessB u c
def outA (l:Rws) (c:List Int) (i:Nat):Rws:=if dnB l c i=true then insC (l.take i) c else l.take i
theorem dnB_succ {l:Rws} {c u:List Int} {i:Nat} (h:l[i]? = some u):dnB l c (i+1)=(dnB l c i||!lessB u c):=by
 unfold dnB
 rw[take_snoc' h,List.any_append]
 simp
theorem dnB_no {l:Rws} {c:List Int} {i:Nat} (h:dnB l c i=false):∀ u∈l.take i,lessB u c=true:=fun u hu=>by
 unfold dnB at h
 have:=List.any_eq_false.1 h u hu
 simpa using this
theorem dnB_yes {l:Rws} {c:List Int} {i:Nat} (h:dnB l c i=true):∃ v∈l.take i,lessB v c=false:=by
 unfold dnB at h
 obtain⟨v,hv,hl⟩:=List.any_eq_true.1 h
 exact⟨v,hv,by simpa using hl⟩
theorem outA_len {l:Rws} {c:List Int} {i:Nat} (hs:SortC l):(outA l c i).length≤l.length+1:=by
 unfold outA
 split
 · have:=(insC_facts (l:=l.take i) (c:=c) (hs.sublist (List.take_sublist _ _))).2.2
   have h2:(l.take i).length≤l.length:=by rw[List.length_take];omega
   omega
 · rw[List.length_take];omega
theorem outA_step {l:Rws} {c u:List Int} {i:Nat} (h:l[i]? = some u) :
 outA l c (i+1)=if dnB l c i=true then outA l c i++[u] else if lessB u c=true then outA l c i++[u] else if lessB c u=true then outA l c i++[c]++[u] else outA l c i++[c]:=by
 unfold outA
 rw[dnB_succ h,take_snoc' h]
 cases hd:dnB l c i with
 | true =>
   simp only[Bool.true_or,if_true]
   exact insC_done (dnB_yes hd)
 | false =>
   simp only[Bool.false_or,Bool.false_eq_true,if_false]
   cases hu:lessB u c with
   | true=>simp
   | false =>
     simp only[Bool.not_false,if_true,Bool.false_eq_true,if_false]
     rw[insC_less (dnB_no hd)]
     have e:insC [u] c=if lessB u c=true then u::insC [] c else if u=c then [u] else [c,u]:=rfl
     rw[e,hu,if_neg (by simp)]
     cases hc:lessB c u with
     | true =>
       rw[if_neg (fun h=>by subst h;rw[hc] at hu;cases hu)]
       simp
     | false =>
       have:=lessB_tri hu hc
       rw[if_pos this,this]
       simp
theorem outA_end {l:Rws} {c:List Int}:(if dnB l c l.length=true then outA l c l.length else outA l c l.length++[c])=insC l c:=by
 unfold outA
 rw[List.take_length]
 cases hd:dnB l c l.length with
 | true=>simp
 | false =>
   have h:=dnB_no hd
   rw[List.take_length] at h
   have e:=insC_less (q:=[]) h
   rw[List.append_nil] at e
   simp only[Bool.false_eq_true,if_false]
   rw[e];rfl
abbrev drow (c:List Int):V:=.d (eSl 3 (e1 eInt) c)
abbrev drows (l:Rws):V:=.d (erows l)
theorem enRow_mem {l:Rws}:∀ c∈l.map enRow,c.length=1:=fun c hc=>by obtain⟨x,_,rfl⟩:=List.mem_map.1 hc;rfl
set_option maxRecDepth 100000 in
set_option maxHeartbeats 4000000 in
theorem l13Add_conT (l:Rws) (c:List Int) (hl:l.length≤1000) (h4:∀ u∈l,u.length≤4) (hc:c.length≤4) (hs:SortC l):ConT Try.prog 94 [drows l,drow c] [] (drows (insC l c)) []:=by
 have hend:=outA_end (l:=l) (c:=c)
 refine conT_of (by kernel_rfl) Try.func94 rfl rfl rfl (by simp[laters,Later]) (by simp[lives,Slot.live]) ?_
 simp[drows,drow]
 refine aw_loopU [true,true,false,false,false,true,true,true,false,false,false,false,false,false,false,false,false,false,false,false,false,false,false,false,false,false,false,false,false,false,false,false,false,false,false,false,false,false,false,false,false,false,false,false,false,false,false,false,false,false,false] (fun i:Nat=>i≤l.length) (fun i:Nat=>[(6,.d (.bool (dnB l c i))),(7,.d (.int .i64 i))]) (fun i:Nat=>[(0,.arr 26 false ((outA l c i).map enRow))]) (fun i:Nat=>l.length - i) 0 ?_ ?_ ?_
 · exact Nat.zero_le _
 · exact⟨[0],by simp[dnB,outA]⟩
 rintro I S μ hI hS hμ i hi
 have hol:=outA_len (c:=c) (i:=i) hs
 by_cases hlt:i<l.length
 · have hx1:l[i]? = some l[i]:=List.getElem?_eq_getElem hlt
   have hu4:=h4 _ (List.getElem_mem hlt)
   have hst:=outA_step (c:=c) hx1
   have hdn:=dnB_succ (c:=c) hx1
   have wi:IntKind.i64.wrap ((i:Int)+1)=((i+1:Nat):Int):=by rw[wrap_id (by omega) (by omega)];omega
   generalize l[i]=u at *
   have hL:(enRow u).length=1:=rfl
   have k1:=sCutLess_con u c (by omega) (by omega)
   have k2:=sCutLess_con c u (by omega) (by omega)
   obtain⟨o2,ho2⟩:∃ o2,outA l c (i+1)=o2:=⟨_,rfl⟩
   rw[ho2] at hst
   obtain⟨d2,hd2⟩:∃ d2,dnB l c (i+1)=d2:=⟨_,rfl⟩
   rw[hd2] at hdn
   generalize outA l c i=o at *
   generalize dnB l c i=dn at *
   cases dn with
   | true =>
     rw[if_pos rfl] at hst
     rw[Bool.true_or] at hdn
     simp[decide_eq_true hlt,hx1,hL,enRow]
     refine app_frozen (by exact rfl) vt_el_29 (by exact rfl) (by simp) (by simp[enRow,e1]) (by first | (simp;done)|(simp;omega)) ?_
     simp[enRow,wi]
     exact round_of hI hS hμ (i+1) (by omega) (by omega) ⟨[2],by simp[hd2,hdn,ho2,hst,enRow,e1,eSl]⟩
   | false =>
     rw[if_neg (by simp)] at hst
     rw[Bool.false_or] at hdn
     simp[decide_eq_true hlt,hx1,hL,enRow]
     cases hu:lessB u c with
     | true =>
       rw[hu] at k1 hdn
       rw[hu,if_pos rfl] at hst
       refine call_step (k1) ?_
       simp[hx1,hL,enRow]
       refine app_frozen (by exact rfl) vt_el_29 (by exact rfl) (by simp) (by simp[enRow,e1]) (by first | (simp;done)|(simp;omega)) ?_
       simp[enRow,wi]
       exact round_of hI hS hμ (i+1) (by omega) (by omega) ⟨[2],by simp[hd2,hdn,ho2,hst,enRow,e1,eSl]⟩
     | false =>
       rw[hu] at k1 hdn
       rw[hu,if_neg (by simp)] at hst
       refine call_step (k1) ?_
       simp[hx1,hL,enRow]
       refine app_frozen (by exact rfl) vt_el_29 (by exact rfl) (by simp) (by simp[enRow,e1]) (by first | (simp;done)|(simp;omega)) ?_
       simp[enRow,hx1,hL]
       cases hcu:lessB c u with
       | true =>
         rw[hcu] at k2
         rw[hcu,if_pos rfl] at hst
         refine call_step (k2) ?_
         simp[hx1,hL,enRow]
         refine app_frozen (by exact rfl) vt_el_29 (by exact rfl) (by simp) (by simp[enRow,e1]) (by first | (simp;done)|(simp;omega)) ?_
         simp[enRow,wi]
         exact round_of hI hS hμ (i+1) (by omega) (by omega) ⟨[4],by simp[hd2,hdn,ho2,hst,enRow,e1,eSl]⟩
       | false =>
         rw[hcu] at k2
         rw[hcu,if_neg (by simp)] at hst
         refine call_step (k2) ?_
         simp[hx1,hL,enRow,wi]
         exact round_of hI hS hμ (i+1) (by omega) (by omega) ⟨[2],by simp[hd2,hdn,ho2,hst,enRow,e1,eSl]⟩
 · obtain rfl:i=l.length:=by omega
   generalize outA l c l.length=o at *
   cases hd:dnB l c l.length with
   | true =>
     rw[hd,if_pos rfl] at hend
     simp[decide_eq_false hlt,hlt]
     exact⟨[],by simp[hend,enRow,e1,eSl]⟩
   | false =>
     rw[hd,if_neg (by simp)] at hend
     simp[decide_eq_false hlt,hlt]
     refine app_frozen (by exact rfl) vt_el_29 (by exact rfl) (by simp) (by simp[enRow,e1]) (by first | (simp;done)|(simp;omega)) ?_
     simp[enRow]
     exact⟨[],by simp[←hend,enRow,e1,eSl]⟩
theorem foldl_take2 {α β:Type} {f:β→α→β} {b:β} {xs:List α} {k:Nat} {x:α} (hx:xs[k]? = some x):(xs.take (k+1)).foldl f b=f ((xs.take k).foldl f b) x:=by
 rw[take_snoc' hx,List.foldl_append];rfl
def cndI (a b:Rws) (i:Nat):Rws:=(a.take i).foldl (fun l x=>rowC x b l) []
def cndJ (a b:Rws) (i:Nat) (x:List Int) (j:Nat):Rws:=rowC x (b.take j) (cndI a b i)
theorem cndI_facts {m:Nat} {a b:Rws} (ha:∀ x∈a,RowP m x) (hb:∀ y∈b,RowP m y) (i:Nat):GoodC (RowP m) (cndI a b i)∧(cndI a b i).length≤a.length*b.length:=by
 obtain⟨h1,h2⟩:=cand_good (P:=RowP m) (b:=b) (a.take i) (l:=[]) ⟨List.Pairwise.nil,by simp⟩ fun x hx y hy c hc=>mergeO_row (ha x (List.mem_of_mem_take hx)) (hb y hy) hc
 refine⟨h1,?_⟩
 have:(a.take i).length*b.length≤a.length*b.length:=Nat.mul_le_mul_right _ (by rw[List.length_take];omega)
 simp only[List.length_nil,Nat.zero_add] at h2
 exact Nat.le_trans h2 this
theorem cndJ_facts {m:Nat} {a b:Rws} (ha:∀ x∈a,RowP m x) (hb:∀ y∈b,RowP m y) (i:Nat) {x:List Int} (hx:RowP m x) (j:Nat):GoodC (RowP m) (cndJ a b i x j)∧(cndJ a b i x j).length≤a.length*b.length+b.length:=by
 obtain⟨h1,h2⟩:=cndI_facts ha hb i
 obtain⟨h3,h4⟩:=rowC_good (P:=RowP m) (x:=x) (b.take j) h1 fun y hy c hc=>mergeO_row hx (hb y (List.mem_of_mem_take hy)) hc
 refine⟨h3,?_⟩
 have h5:(b.take j).length≤b.length:=by rw[List.length_take];omega
 unfold cndJ
 omega
theorem cndJ_succ {a b:Rws} {i j:Nat} {x y:List Int} (h:b[j]? = some y):cndJ a b i x (j+1)=addO (cndJ a b i x j) (mergeO x y):=by
 unfold cndJ rowC
 rw[foldl_take2 h]
theorem cndI_succ {a b:Rws} {i:Nat} {x:List Int} (h:a[i]? = some x):cndI a b (i+1)=cndJ a b i x b.length:=by
 unfold cndI cndJ
 rw[foldl_take2 h,List.take_length]
 rfl
def fltK (L:Rws) (i:Nat):Rws:=(L.take i).filter (keepB L)
theorem fltK_succ {L:Rws} {i:Nat} {u:List Int} (h:L[i]? = some u):fltK L (i+1)=if keepB L u=true then fltK L i++[u] else fltK L i:=by
 unfold fltK
 rw[take_snoc' h,List.filter_append]
 cases hk:keepB L u<;>simp[hk]
theorem fltK_seven {L:Rws} {i:Nat} (h:(fltK L i).length=7):(L.filter (keepB L)).take 7=fltK L i:=by
 have e:L.filter (keepB L)=fltK L i++(L.drop i).filter (keepB L):=by
  unfold fltK
  rw[←List.filter_append,List.take_append_drop]
 rw[e,←h,List.take_left']
 rfl
theorem fltK_all {L:Rws} (h:(fltK L L.length).length≤7):(L.filter (keepB L)).take 7=fltK L L.length:=by
 unfold fltK at h ⊢
 rw[List.take_length] at h ⊢
 exact List.take_of_length_le h
def allD (L:Rws) (u:List Int) (k:Nat):Bool:=(L.take k).all fun v=>!domB v u
theorem allD_succ {L:Rws} {u v:List Int} {k:Nat} (h:L[k]? = some v):allD L u (k+1)=(allD L u k&&!domB v u):=all_snoc' (p:=fun v=>!domB v u) h
theorem allD_down {L:Rws} {u:List Int} {k i:Nat} (hk:k≤i) (h:allD L u k=false):allD L u i=false:=by
 unfold allD at h ⊢
 rw[List.all_eq_false] at h ⊢
 obtain⟨v,hv,hh⟩:=h
 refine⟨v,?_,hh⟩
 have:L.take k=(L.take i).take k:=by rw[List.take_take];congr 1;omega
 rw[this] at hv
 exact List.mem_of_mem_take hv
set_option maxRecDepth 100000 in
set_option maxHeartbeats 8000000 in
theorem l13Join_conT (a b:Rws) (m:Nat) (la:a.length≤8) (lb:b.length≤8) (ha:∀ x∈a,RowP m x) (hb:∀ y∈b,RowP m y):ConT Try.prog 88 [drows a,drows b] [] (.ref 0) [.arr 26 false ((joinC a b).map enRow)]:=by
 have hab:a.length*b.length≤64:=Nat.mul_le_mul la lb
 have hJ:joinC a b=((cndI a b a.length).filter (keepB (cndI a b a.length))).take 7:=by unfold joinC candC cndI;rw[List.take_length]
 obtain⟨J,hJJ⟩:∃ J,joinC a b=J:=⟨_,rfl⟩
 rw[hJJ] at hJ ⊢
 refine conT_of (by kernel_rfl) Try.func88 rfl rfl rfl (by simp[laters,Later]) (by simp[lives,Slot.live]) ?_
 simp[drows,drow]
 refine aw_loopN [true,true,false,false,false,true,true,false,false,false,false,false,false,false,false,false,false,false,false,false,false,false,false,false,false,false,false,false,false,false,false,false,false,false,false,false,false,false,false,false,false,false,false,false,false,false,false,false,false,false,false,false,false,false,false,false,false,false,false,false,false,false,false,false,false,false,false,false,false,false,false,false,false,false,false,false,false,false,false,false,false,false,false,false,false,false,false,false,false,false,false,false,false,false,false] (fun i:Nat=>i≤a.length) (fun i:Nat=>[(5,.d (eSl 26 enRow (cndI a b i))),(6,.d (.int .i64 i))]) (fun i:Nat=>fun _=>[]) (fun i:Nat=>a.length - i) 0 ?_ ?_ ?_
 · exact Nat.zero_le _
 · exact⟨[],by simp[cndI]⟩
 rintro I S μ hI hS hμ i hi
 by_cases hlt:i<a.length
 · have hx1:a[i]? = some a[i]:=List.getElem?_eq_getElem hlt
   have hxP:=ha _ (List.getElem_mem hlt)
   have hsI:=cndI_succ (b:=b) hx1
   have wi:IntKind.i64.wrap ((i:Int)+1)=((i+1:Nat):Int):=by rw[wrap_id (by omega) (by omega)];omega
   generalize a[i]=x at *
   have hLx:(enRow x).length=1:=rfl
   simp[decide_eq_true hlt]
   refine aw_loopU [true,true,false,false,false,true,true,true,false,false,false,false,false,false,false,false,false,false,false,false,false,false,false,false,false,false,false,false,false,false,false,false,false,false,false,false,false,false,false,false,false,false,false,false,false,false,false,false,false,false,false,false,false,false,false,false,false,false,false,false,false,false,false,false,false,false,false,false,false,false,false,false,false,false,false,false,false,false,false,false,false,false,false,false,false,false,false,false,false,false,false,false,false,false,false] (fun j:Nat=>j≤b.length) (fun j:Nat=>[(5,.d (eSl 26 enRow (cndJ a b i x j))),(7,.d (.int .i64 j))]) (fun j:Nat=>[]) (fun j:Nat=>b.length - j) 0 ?_ ?_ ?_
   · exact Nat.zero_le _
   · exact⟨[],by simp[cndJ,rowC]⟩
   rintro I1 S1 μ1 hI1 hS1 hμ1 j hj
   by_cases hlj:j<b.length
   · have hy1:b[j]? = some b[j]:=List.getElem?_eq_getElem hlj
     have hyP:=hb _ (List.getElem_mem hlj)
     have hsJ:=cndJ_succ (a:=a) (i:=i) (x:=x) hy1
     have wj:IntKind.i64.wrap ((j:Int)+1)=((j+1:Nat):Int):=by rw[wrap_id (by omega) (by omega)];omega
     obtain⟨g1,g2⟩:=cndJ_facts ha hb i hxP j
     generalize b[j]=y at *
     have hLy:(enRow y).length=1:=rfl
     have km:=sMerge_con x y m hxP hyP
     obtain⟨l2,hl2⟩:∃ l2,cndJ a b i x (j+1)=l2:=⟨_,rfl⟩
     rw[hl2] at hsJ
     generalize cndJ a b i x j=L at *
     cases hm:mergeO x y with
     | none =>
       rw[hm] at km hsJ
       simp[decide_eq_true hlj]
       refine⟨by kernel_rfl,?_⟩
       simp[hx1,hy1,hLx,hLy,enRow]
       refine call_step (km) ?_
       simp[wj]
       exact round_of hI1 hS1 hμ1 (j+1) (by omega) (by omega) ⟨[],by simp[hl2,hsJ,addO]⟩
     | some c =>
       rw[hm] at km hsJ
       have hcP:=mergeO_row hxP hyP hm
       have kA:=l13Add_conT L c (by omega) (fun u hu=>(g1.all u hu).2.1) hcP.2.1 g1.sort
       simp[decide_eq_true hlj]
       refine⟨by kernel_rfl,?_⟩
       simp[hx1,hy1,hLx,hLy,enRow]
       refine call_step (km) ?_
       simp
       refine callT_step (kA) [0] [] (by simp) ?_
       simp[wj]
       exact round_of hI1 hS1 hμ1 (j+1) (by omega) (by omega) ⟨[],by simp[hl2,hsJ,addO]⟩
   · obtain rfl:j=b.length:=by omega
     simp[decide_eq_false hlj,hlj,wi]
     exact round_of hI hS hμ (i+1) (by omega) (by omega) ⟨[],by simp[hsI]⟩
 obtain rfl:i=a.length:=by omega
 clear hI hS hμ
 obtain⟨g1,g2⟩:=cndI_facts ha hb a.length
 generalize cndI a b a.length=L at *
 have hL64:L.length≤64:=by omega
 simp[decide_eq_false hlt,hlt]
 refine aw_loopU [false,false,false,false,false,true,false,false,false,false,true,true,false,false,false,false,false,false,false,false,false,false,false,false,false,false,false,false,false,false,false,false,false,false,false,false,false,false,false,false,false,false,false,false,false,false,false,false,false,false,false,false,false,false,false,false,false,false,false,false,false,false,false,false,false,false,false,false,false,false,false,false,false,false,false,false,false,false,false,false,false,false,false,false,false,false,false,false,false,false,false,false,false,false,false] (fun i:Nat=>i≤L.length∧(fltK L i).length≤7) (fun i:Nat=>[(11,.d (.int .i64 i))]) (fun i:Nat=>[(0,.arr 26 false ((fltK L i).map enRow))]) (fun i:Nat=>L.length - i) 0 ?_ ?_ ?_
 · exact⟨Nat.zero_le _,by simp[fltK]⟩
 · exact⟨[0],by simp[fltK]⟩
 rintro I S μ hI hS hμ i ⟨hi,h7⟩
 by_cases hli:i<L.length
 case neg =>
  obtain rfl:i=L.length:=by omega
  have hA:=fltK_all h7
  rw[hA] at hJ
  simp[decide_eq_false hli,hli]
  exact⟨[0],by simp[hJ]⟩
 by_cases hl7:(fltK L i).length<7
 case neg =>
  have hA:=fltK_seven (L:=L) (i:=i) (by omega)
  have h7n:¬ ((fltK L i).length:Int)<7:=by omega
  rw[hA] at hJ
  simp[decide_eq_true hli,h7n,decide_eq_false h7n]
  exact⟨[0],by simp[hJ]⟩
 have hu1:L[i]? = some L[i]:=List.getElem?_eq_getElem hli
 have huP:=g1.all _ (List.getElem_mem hli)
 have hfs:=fltK_succ hu1
 have hkt:=keep_take g1.sort hu1
 have wi:IntKind.i64.wrap ((i:Int)+1)=((i+1:Nat):Int):=by rw[wrap_id (by omega) (by omega)];omega
 generalize L[i]=u at *
 have hLu:(enRow u).length=1:=rfl
 have h7y:((fltK L i).length:Int)<7:=by omega
 change keepB L u=allD L u i at hkt
 simp[decide_eq_true hli,h7y,decide_eq_true h7y]
 refine aw_loopU [false,false,false,false,false,true,false,false,false,false,true,true,true,true,false,false,false,false,false,false,false,false,false,false,false,false,false,false,false,false,false,false,false,false,false,false,false,false,false,false,false,false,false,false,false,false,false,false,false,false,false,false,false,false,false,false,false,false,false,false,false,false,false,false,false,false,false,false,false,false,false,false,false,false,false,false,false,false,false,false,false,false,false,false,false,false,false,false,false,false,false,false,false,false,false] (fun k:Nat=>k≤i) (fun k:Nat=>[(12,.d (.bool (allD L u k))),(13,.d (.int .i64 k))]) (fun k:Nat=>[]) (fun k:Nat=>i - k) 0 ?_ ?_ ?_
 · exact Nat.zero_le _
 · exact⟨[0],by simp[allD]⟩
 rintro I3 S3 μ3 hI3 hS3 hμ3 k hk
 by_cases hlk:k<i
 case neg =>
  obtain rfl:k=i:=by omega
  rw[←hkt]
  cases hkp:keepB L u with
  | true =>
    rw[hkp,if_pos rfl] at hfs
    simp[decide_eq_false hlk,hlk,hu1,hLu,enRow]
    refine app_frozen (by exact rfl) vt_el_29 (by exact rfl) (by simp) (by simp[enRow,e1]) (by first | (simp;done)|(simp;omega)) ?_
    simp[enRow,wi]
    exact round_of hI hS hμ (k+1) ⟨by omega,by rw[hfs];simp;omega⟩ (by omega) ⟨[2],by simp[hfs,enRow,e1,eSl]⟩
  | false =>
    rw[hkp,if_neg (by simp)] at hfs
    simp[decide_eq_false hlk,hlk,wi]
    exact round_of hI hS hμ (k+1) ⟨by omega,by rw[hfs];exact h7⟩ (by omega) ⟨[0],by simp[hfs]⟩
 cases hw:allD L u k with
 | false =>
   have hkf:keepB L u=false:=by rw[hkt];exact allD_down (by omega) hw
   rw[hkf,if_neg (by simp)] at hfs
   simp[decide_eq_true hlk,wi]
   exact round_of hI hS hμ (i+1) ⟨by omega,by rw[hfs];exact h7⟩ (by omega) ⟨[0],by simp[hfs]⟩
 | true =>
   have hv1:L[k]? = some (L[k]'(by omega)):=List.getElem?_eq_getElem _
   have hvP:=g1.all _ (List.mem_of_getElem? hv1)
   have hds:=allD_succ (u:=u) hv1
   rw[hw,Bool.true_and] at hds
   have wk:IntKind.i64.wrap ((k:Int)+1)=((k+1:Nat):Int):=by rw[wrap_id (by omega) (by omega)];omega
   generalize L[k]'(by omega)=v at *
   have hLv:(enRow v).length=1:=rfl
   have kw:=l13Within_con v u (by have:=hvP.2.1;omega) (by have:=huP.2.1;omega)
   have hdm:domB v u=(decide (v.length<u.length)&&withinB v u):=rfl
   obtain⟨a2,ha2⟩:∃ a2,allD L u (k+1)=a2:=⟨_,rfl⟩
   rw[ha2] at hds
   simp[decide_eq_true hlk]
   refine⟨by kernel_rfl,?_⟩
   by_cases hvu:v.length<u.length
   · rw[decide_eq_true hvu,Bool.true_and] at hdm
     rw[hdm] at hds
     simp[hv1,hu1,hLv,hLu,enRow,decide_eq_true hvu]
     refine call_step (kw) ?_
     simp[wk]
     exact round_of hI3 hS3 hμ3 (k+1) (by omega) (by omega) ⟨[0],by simp[ha2,hds]⟩
   · rw[decide_eq_false hvu,Bool.false_and] at hdm
     rw[hdm] at hds
     simp[hv1,hu1,hLv,hLu,enRow,decide_eq_false hvu,wk]
     exact round_of hI3 hS3 hμ3 (k+1) (by omega) (by omega) ⟨[0],by simp[ha2,hds]⟩
def en3 (rs:Rws):List D:=e1 erows rs
abbrev allG (x:GrD) (k:Nat):List Rws:=allC (firstG x) (kidA x) (kidB x) k
theorem allG_at {x:GrD} {k i:Nat} (h:i≤k):∃ l,(allG x k)[i]? = some l:=⟨_,List.getElem?_eq_getElem (by rw[allC_len];omega)⟩
set_option maxRecDepth 100000 in
set_option maxHeartbeats 8000000 in
theorem l13All_conT (x:GrD) (v:Nat) (hx:fitGr 1048576 x) (hok:netOkB x=true) (hv:v<grN x):ConT Try.prog 79 [vgr x,.d (.int .i64 v)] [] (.ref 0) [.arr 29 false ((allG x v).map en3)]:=by
 obtain⟨⟨n1,n2,n3,n4,n5,n6⟩,-,-,-⟩:=netOk_of hok
 obtain⟨hF,hgl,hNi,hno⟩:=ok_sizes hok
 have hN:=grN_eq x
 have hfp:0<firstG x:=by unfold firstG;omega
 refine conT_ofD (by kernel_rfl) Try.func79 rfl rfl rfl (by simp[laters,Later]) (by simp[lives,Slot.live]) ?_
 simp[enGr]
 refine aw_loopU [false,true,true,false,false,true,true,false,false,false,false,false,false,false,false,false,false,false,false,false,false,false,false,false,false,false,false,false,false,false,false,false,false,false,false,false,false,false,false,false,false,false,false,false,false,false,false,false,false,false,false,false] (fun k:Nat=>1≤k∧k≤v+1) (fun k:Nat=>[(6,.d (.int .i64 k))]) (fun k:Nat=>[(3,.arr 29 false ((allG x (k - 1)).map en3))]) (fun k:Nat=>v+1 - k) 1 ?_ ?_ ?_
 · omega
 · exact⟨[0,1,2,3],by simp[allC,en3,eSl,e1,enRow]⟩
 rintro I S μ hI hS hμ k ⟨hk1,hk2⟩
 obtain⟨j,rfl⟩:∃ j,k=j+1:=⟨k - 1,by omega⟩
 rw[Nat.add_sub_cancel]
 have hal:(allG x j).length=j+1:=allC_len j
 have hst:allG x (j+1)=allG x j++[entC (firstG x) (kidA x) (kidB x) (allG x j) (j+1)]:=rfl
 obtain⟨k,hk⟩:∃ k,k=j+1:=⟨_,rfl⟩
 have hkc:((j:Int)+1)=(k:Int):=by omega
 have hkc2:((j+1:Nat):Int)=(k:Int):=by omega
 rw[hkc2]
 rw[←hk] at hst hk2
 by_cases hlt:k≤v
 case neg =>
  obtain rfl:v=j:=by omega
  simp[show ¬ (k:Int)≤(v:Int) by omega]
  exact⟨[3],by simp⟩
 have hkv:(k:Int)≤(v:Int):=by omega
 have wk:IntKind.i64.wrap ((k:Int)+1)=((k+1:Nat):Int):=by rw[wrap_id (by omega) (by omega)];omega
 by_cases hkF:k<firstG x
 · have he:entC (firstG x) (kidA x) (kidB x) (allG x j) k=[[(k:Int)]]:=by unfold entC;rw[if_neg (by omega)];rfl
   rw[he] at hst
   simp[hkv]
   refine call_step (sFirst_con x ⟨n1,n2⟩ n3) ?_
   simp[show ¬ (1+x.1+(x.2.1.length:Int))≤(k:Int) by omega]
   first | refine app_lit (q:=1) vt_el_29 (by exact rfl) (by simp) (by exact rfl) (by exact rfl) (by simp) (by simp) (by first | (simp;done)|(simp;omega)) ?_|refine app_row vt_el_29 (by exact rfl) (by simp) (by exact rfl) (by simp) (by first | (simp;done)|(simp;omega)) ?_
   simp
   refine app_frozen (by exact rfl) vt_el_88 (by exact rfl) (by simp) (by simp[enRow,e1]) (by first | (simp;done)|(simp;omega)) ?_
   simp[enRow,wk]
   exact round_of hI hS hμ (k+1) ⟨by omega,by omega⟩ (by omega) ⟨[0,1,2,9],by simp[hst,en3,enRow,e1,eSl,eInt]⟩
 · have hkN:k<grN x:=by omega
   obtain⟨ha,a1,a2,a3,a4,a5,a6⟩:=and_at hok (v:=k) (by omega) hkN
   have hL2:(enAnd (andAt x k)).length=2:=rfl
   have wf:IntKind.i64.wrap ((k:Int) - (1+x.1+(x.2.1.length:Int)))=((k - firstG x:Nat):Int):=by rw[wrap_id (by omega) (by omega)];omega
   have q1:IntKind.i64.wrap ((andAt x k).1.tdiv 2)=(kidA x k:Int):=by rw[Int.tdiv_eq_ediv_of_nonneg a1,a3];exact wrap_id (by omega) (by omega)
   have q2:IntKind.i64.wrap ((andAt x k).2.tdiv 2)=(kidB x k:Int):=by rw[Int.tdiv_eq_ediv_of_nonneg a2,a4];exact wrap_id (by omega) (by omega)
   obtain⟨lA,hlA⟩:=allG_at (x:=x) (k:=j) (i:=kidA x k) (by omega)
   obtain⟨lB,hlB⟩:=allG_at (x:=x) (k:=j) (i:=kidB x k) (by omega)
   have rA:=allC_row (kids_lt hok) j (by omega) _ _ hlA
   have rB:=allC_row (kids_lt hok) j (by omega) _ _ hlB
   have he:entC (firstG x) (kidA x) (kidB x) (allG x j) k=joinC lA lB++[[(k:Int)]]:=by
    unfold entC;rw[if_pos (by omega),hlA,hlB];rfl
   rw[he] at hst
   have kj:=l13Join_conT lA lB j rA.1 rB.1 (fun c hc=>(rA.2 c hc).mono (by omega)) (fun c hc=>(rB.2 c hc).mono (by omega))
   have hjl:=joinC_len (a:=lA) (b:=lB)
   have hLA:(en3 lA).length=1:=rfl
   have hLB:(en3 lB).length=1:=rfl
   generalize joinC lA lB=J at *
   generalize kidA x k=ka at *
   generalize kidB x k=kb at *
   generalize andAt x k=an at *
   simp[hkv]
   refine call_step (sFirst_con x ⟨n1,n2⟩ n3) ?_
   simp[show (1+x.1+(x.2.1.length:Int))≤(k:Int) by omega]
   refine drawD_of 9 (by kernel_rfl) ?_
   simp
   refine call_step (sFirst_con x ⟨n1,n2⟩ n3) ?_
   simp[wf,ha,hL2,enAnd]
   refine drawD_of 12 (by kernel_rfl) ?_
   simp[q1,q2,hlA,hlB,hLA,hLB,en3]
   refine callT_step (kj) [] [] (by simp) ?_
   simp
   refine app_frozen (by exact rfl) vt_el_29 (by exact rfl) (by simp) (by simp[enRow,e1]) (by first | (simp;done)|(simp;omega)) ?_
   simp[enRow]
   refine app_frozen (by exact rfl) vt_el_88 (by exact rfl) (by simp) (by simp[enRow,e1]) (by first | (simp;done)|(simp;omega)) ?_
   simp[enRow,wk]
   exact round_of hI hS hμ (k+1) ⟨by omega,by omega⟩ (by omega) ⟨[0,1,2,11],by simp[hst,en3,enRow,e1,eSl,eInt]⟩
end Go.Proofs.Ytakohcpfjkcfdaa
