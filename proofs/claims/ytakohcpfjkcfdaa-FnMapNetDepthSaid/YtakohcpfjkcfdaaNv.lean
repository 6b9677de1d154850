/-
  Values of nodes, and numbers of bits; small contracts, by abstract walks.
  Conditions: those typed in each theorem.
-/
import Derived.Test.YtakohcpfjkcfdaaNa
import Derived.Test.YtakohcpfjkcfdaaNd
namespace Go.Proofs.Ytakohcpfjkcfdaa
open Go.RowKit Go.ChangeShapes Go.WideShapes
set_option linter.unusedVariables false
set_option linter.unusedSimpArgs false
attribute [local simp ↓] condG_true condG_false condB_true condB_false
attribute [local simp] AWp_skip AWp_region_t AWp_region_d AWp_region_f still_mk AWp_seq AWp_cond condV_bool condB AWp_block AWp_exit AWp_ret
attribute [local simp] AOps_nil AOp_move AOp_assign AOp_pick AOp_binOp AOp_unOp AOp_convert AOp_len AOp_max AOp_min AOp_indexAddr AOp_load
attribute [local simp] AOp_fieldAddr AOp_field AOp_extract AOp_nilCheck AOp_build AOp_alloc AOp_box AOp_call AOp_store AOp_append AOp_buildSlice nextB_some
attribute [local simp] nextB_none adoptO adoptC AOp_makeSlice AOp_slice AOp_makeFunc AOp_guard guardD_some guardG_bool guardG_undef nextO_some nextS_some
attribute [local simp] nextZ_some nextL_some nextM_some nextT_some sliceO sliceL sliceT partO partV boundV funcO pickO
attribute [local simp] convO lenO maxO minO idxO extO nilO buildO litO litC makeO chunks
attribute [local simp] fillV placeOf thenA inBlockA St.get St.put St.eval ofCell evalT abin_add abin_sub abin_mul
attribute [local simp] abin_quo abin_rem abin_and abin_or abin_xor abin_andNot abin_shl abin_shr abin_shlu abin_eql abin_eqp abin_neq
attribute [local simp] abin_lss abin_leq abin_gtr abin_geq abin_eqlb abin_neqb aun pickV lenV intOf? indexV takeD
attribute [local simp] takeV loadV fieldAddrV fieldV ofX presD presDs pres presAll cellsV V.cell storeV
attribute [local simp] freezeC putAt kill takeC plains plainV scalarV nat_neg keepT sets eSl e1
attribute [local simp] e2 e3 e4 eInt eBool abinS_d abinS_agg abinS nilEq abin_eqb AOp_makeMap AOp_lookup
attribute [local simp] AOp_mapUpdate lookG_some updG_some mapV kyOf vlOf lookV vlV buildA afterCall inst inst1
attribute [local simp] inst1s instD instDs RetA resVs resV gives give1 give1s Le isPin leSlots
attribute [local simp] leS leTmps leV le0 le0s ren ren0 renS ren0s frame enterT afterT_some
attribute [local simp] afterC_some lives Slot.live arrsOk viewV view0 renT rens renSs setAll List.range'_succ RetT
attribute [local simp] RetW joinV leT AOpsE_nil AOpsE_cons AOpsT_nil AOpsT_cons isCallT isFnO callOf callVC_fn condC_true
attribute [local simp] condC_false beginT_mk thenT_mk pickE pickT isT loose namesOf namesV names1 names0 stableN
attribute [local simp] sameAt Op.operands Call.operands
abbrev ints (xs:List Int):X:=.d (eSl 3 (e1 eInt) xs)
def atI (lv:List Int) (k:Int):Int:=(lv[k.toNat]?).getD 0
theorem at_read {lv:List Int} {k:Int} (h:0≤k∧k<lv.length):lv[k.toNat]? = some (atI lv k):=by
 unfold atI
 rw[List.getElem?_eq_getElem (by omega)]
 rfl
def sameB (a b:List Int):Bool:=decide (a=b)
theorem sameB_take {a b:List Int} {k:Nat} (hl:a.length=b.length) (hk:k<a.length) (h:a.take k=b.take k) (he:a[k]? = b[k]?):a.take (k+1)=b.take (k+1):=by
 have h1:a[k]? = some a[k]:=List.getElem?_eq_getElem hk
 rw[take_snoc' h1,take_snoc' (xs:=b) (he▸h1),h]
theorem sameInts_con (a b:List Int) (ha:a.length≤1048576) (hl:a.length=b.length):ConC Try.prog 91 [ints a,ints b] (.d (.bool (sameB a b))):=by
 refine con_of (by kernel_rfl) Try.func91 rfl rfl rfl ?_
 simp[hl]
 refine aw_loopU [true,true,false,false,false,false,false,false,false,false,false,false,true,true,false,false,false,false,false,false,false,false,false,false,false,false] (fun k:Nat=>k≤a.length∧a.take k=b.take k) (fun k:Nat=>[(13,.d (.int .i64 k))]) (fun k:Nat=>[]) (fun k:Nat=>a.length - k) 0 ?_ ?_ ?_
 · simp
 · exact⟨[],by simp⟩
 rintro I S μ hI hS hμ k ⟨hk,ht⟩
 by_cases hlt:k<a.length
 · have hx1:a[k]? = some a[k]:=List.getElem?_eq_getElem hlt
   have hx2:b[k]? = some (b[k]'(by omega)):=List.getElem?_eq_getElem _
   have w2:IntKind.i64.wrap ((k:Int)+1)=(k:Int)+1:=wrap_id (by omega) (by omega)
   have hnx:a[k]? = b[k]?→a.take (k+1)=b.take (k+1):=sameB_take hl hlt ht
   have hno:a[k]?≠b[k]?→sameB a b=false:=fun h=>by
    cases hs:sameB a b with
    | false=>rfl
    | true=>exact absurd (congrArg (·[k]?) (of_decide_eq_true hs)) h
   rw[hx1,hx2] at hnx hno
   generalize a[k]=u at *
   generalize b[k]'(by omega)=v at *
   have hd:decide (k<a.length)=true:=decide_eq_true hlt
   have hd':decide (k<b.length)=true:=decide_eq_true (by omega)
   by_cases he:u=v
   · subst he
     simp[hd,hd',hx1,hx2,w2]
     exact⟨by kernel_rfl,round_of hI hS hμ (k+1) ⟨by omega,hnx rfl⟩ (by omega) ⟨[],by simp⟩⟩
   · have hn:=hno (by simpa using he)
     simp[hd,hd',hx1,hx2,he,hn]
     show _=true
     kernel_rfl
 · have hk':k=a.length:=by omega
   have hs:sameB a b=true:=by
    rw[hk',List.take_length,hl,List.take_length] at ht
    simpa [sameB] using ht
   simp[hlt,show ¬ k<b.length by omega,hs]
theorem setI {lv:List Int} {i:Nat} {v:Int}:(lv.map (e1 eInt)).set i [.int .i64 v]=(lv.set i v).map (e1 eInt):=by rw[List.map_set];rfl
theorem aw_loopN {P:Program} {m:Mode} {Q:Exit→St→Prop} {c:Code} {T:List V} {sl0:List Slot} {ι:Type} (mask:List Bool) (I:ι→Prop) (upd:ι→List (Nat×V)) (fsl:ι→List Slot→List Slot) (μ:ι→Nat) (i0:ι) (h0:I i0)
 (hle:Le m ⟨T,sl0⟩ ⟨sets (keepT mask T) (upd i0),fsl i0 sl0⟩)
 (hr:∀ (I':ι→Prop) (S':ι→St) (μ':ι→Nat),(∀ i,I' i↔I i)→(∀ i,S' i=⟨sets (keepT mask T) (upd i),fsl i sl0⟩)→(∀ i,μ' i=μ i)→∀ i,I i→AWp P m c (thenA (Round m I' S' μ' i) Q) ⟨sets (keepT mask T) (upd i),fsl i sl0⟩):AWp P m (.loop c) Q ⟨T,sl0⟩ :=
 aw_loop' I (fun i=>⟨sets (keepT mask T) (upd i),fsl i sl0⟩) μ i0 h0 hle hr
def nilR (k s:Nat):V:=if k=0 then .nil 3 else .ref s
def nilS (k:Nat) (xs:List Int) (sl:List Slot):List Slot:=if k=0 then sl else sl++[.arr 3 true (xs.map (e1 eInt))]
theorem seqOk_len {s:SeqD} (h:seqOkB s=true):s.2.2.length≤4:=by
 unfold seqOkB at h
 split at h
 · simp at h;omega
 · split at h
   · simp at h;omega
   · cases h
end Go.Proofs.Ytakohcpfjkcfdaa
/-
  Values of a graph's nodes; states; a cycle, by abstract walks.
  Conditions: those typed in each theorem.
-/
namespace Go.Proofs.Ytakohcpfjkcfdaa
open Go.RowKit Go.ChangeShapes Go.WideShapes
set_option linter.unusedVariables false
set_option linter.unusedSimpArgs false
attribute [local simp ↓] condG_true condG_false condB_true condB_false
attribute [local simp] AWp_skip AWp_region_t AWp_region_d AWp_region_f still_mk AWp_seq AWp_cond condV_bool condB AWp_block AWp_exit AWp_ret
attribute [local simp] AOps_nil AOp_move AOp_assign AOp_pick AOp_binOp AOp_unOp AOp_convert AOp_len AOp_max AOp_min AOp_indexAddr AOp_load
attribute [local simp] AOp_fieldAddr AOp_field AOp_extract AOp_nilCheck AOp_build AOp_alloc AOp_box AOp_call AOp_store AOp_append AOp_buildSlice nextB_some
attribute [local simp] nextB_none adoptO adoptC AOp_makeSlice AOp_slice AOp_makeFunc AOp_guard guardD_some guardG_bool guardG_undef nextO_some nextS_some
attribute [local simp] nextZ_some nextL_some nextM_some nextT_some sliceO sliceL sliceT partO partV boundV funcO pickO
attribute [local simp] convO lenO maxO minO idxO extO nilO buildO litO litC makeO chunks
attribute [local simp] fillV placeOf thenA inBlockA St.get St.put St.eval ofCell evalT abin_add abin_sub abin_mul
attribute [local simp] abin_quo abin_rem abin_and abin_or abin_xor abin_andNot abin_shl abin_shr abin_shlu abin_eql abin_eqp abin_neq
attribute [local simp] abin_lss abin_leq abin_gtr abin_geq abin_eqlb abin_neqb aun pickV lenV intOf? indexV takeD
attribute [local simp] takeV loadV fieldAddrV fieldV ofX presD presDs pres presAll cellsV V.cell storeV
attribute [local simp] freezeC putAt kill takeC plains plainV scalarV nat_neg keepT sets eSl e1
attribute [local simp] e2 e3 e4 eInt eBool abinS_d abinS_agg abinS nilEq abin_eqb AOp_makeMap AOp_lookup
attribute [local simp] AOp_mapUpdate lookG_some updG_some mapV kyOf vlOf lookV vlV buildA afterCall inst inst1
attribute [local simp] inst1s instD instDs RetA resVs resV gives give1 give1s Le isPin leSlots
attribute [local simp] leS leTmps leV le0 le0s ren ren0 renS ren0s frame enterT afterT_some
attribute [local simp] afterC_some lives Slot.live arrsOk viewV view0 renT rens renSs setAll List.range'_succ RetT
attribute [local simp] RetW joinV leT AOpsE_nil AOpsE_cons AOpsT_nil AOpsT_cons isCallT isFnO callOf callVC_fn condC_true
attribute [local simp] condC_false beginT_mk thenT_mk pickE pickT isT loose namesOf namesV names1 names0 stableN
attribute [local simp] sameAt Op.operands Call.operands
def grN (x:GrD):Nat:=1+x.1.toNat+x.2.1.length+x.2.2.1.length
theorem netOk_of {x:GrD} (h:netOkB x=true):(0≤x.1∧x.1≤20∧x.2.1.length≤12∧x.2.2.1.length≤300∧x.2.2.2.length≤16∧nodesG x=1+x.1+x.2.1.length+x.2.2.1.length) ∧
 (∀ s∈x.2.1,seqOkB s=true)∧(∀ y∈grRoots x,0≤y∧y<2*(grN x:Int)) ∧
 ∀ (k:Nat) (a:AndD),x.2.2.1[k]? = some a→(0≤a.1∧a.1<2*(1+x.1+x.2.1.length+k))∧0≤a.2∧a.2<2*(1+x.1+x.2.1.length+k):=by
 simp only[netOkB,Bool.and_eq_true,decide_eq_true_eq] at h
 obtain⟨⟨⟨h1,h2⟩,h3⟩,h4⟩:=h
 have hp:=nodesG_pos h1
 refine⟨hp,List.all_eq_true.1 h2,fun y hy=>?_,fun k a ha=>?_⟩
 · have:=rng_iff.1 (List.all_eq_true.1 h3 y hy)
   unfold grN
   omega
 · cases hf:andFits (1+x.1+x.2.1.length+k) a with
   | false=>rw[andsFit_not ha hf] at h4;cases h4
   | true =>
     simp only[andFits,Bool.and_eq_true] at hf
     have a1:=rng_iff.1 hf.1
     have a2:=rng_iff.1 hf.2
     omega
end Go.Proofs.Ytakohcpfjkcfdaa
