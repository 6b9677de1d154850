/-
  A call's results as data that stay. Plain lemmas, about no function of the program.
  Conditions: those typed in each theorem.
-/
import Derived.Test.YtnjedabjbeipeaaV6
import Derived.Test.YtnjedabjbeipeaaNa
import Derived.Test.YtnjedabjbeipeaaNk
import Derived.Test.YtnjedabjbeipeaaNo
import Derived.Test.YtnjedabjbeipeaaUa
import Derived.Test.YtnjedabjbeipeaaKb
import Derived.Test.YtnjedabjbeipeaaRr
namespace Go.Proofs.Ytnjedabjbeipeaa
open Go.RowKit Go.ChangeShapes Go.WideShapes
set_option linter.unusedVariables false
def ofXs (x:X):V :=
 match x with
 | .tup xs=>.tup (xs.map ofX)
 | x=>ofX x
theorem xown_rd {P:Program} {w:World} {x:X} {v:Value} {F:List Nat} {G:Nat→Prop} (h:XOwn P w x v F) (hG:∀ g∈F,G g):XRd w G x v:=by
 cases h with
 | d h =>
   obtain⟨u,hu,hr⟩:=h.rd hG 0 _ rfl
   simp at hu
   subst hu
   exact .d hr
 | agg h=>exact .agg (h.rds hG)
theorem xown_lt {P:Program} {w:World} {x:X} {v:Value} {F:List Nat} (h:XOwn P w x v F):∀ g∈F,g<w.heap.size:=by
 cases h with
 | d h=>exact h.lt
 | agg h=>exact h.lt
def notTup:X→Prop
 | .tup _=>False
 | _=>True
theorem xrd_vr {w:World} {G:Nat→Prop} {x:X} {v:Value} (hx:notTup x) (h:VR w G [] [] (ofX x) v):XRd w G x v:=by
 cases x with
 | tup xs=>exact hx.elim
 | d d=>cases h with|d h=>exact .d h
 | agg ds =>
   cases h with
   | agg hl h1 h =>
     refine .agg ⟨rfl,by simpa using hl,fun i d hd=>?_⟩
     have hi:=(List.getElem?_eq_some_iff.1 hd).1
     rename_i vs
     have hv:vs[i]? = some (vs[i]'(by rw[hl];simpa using hi)):=List.getElem?_eq_getElem _
     refine⟨_,hv,?_⟩
     have:=h i (.d d) _ (by rw[List.getElem?_map,hd];rfl) hv
     cases this with|d h=>exact h
theorem conT_of_C {P:Program} {f:FuncId} {xs:List X} {r:X} (h:ConC P f xs r) (hx:∀ x∈xs,notTup x):ConT P f (xs.map ofX) [] (ofXs r) []:=by
 refine⟨h.1,trivial,fun w φ Fs R hR vs hm hl hv=>?_⟩
 have hφ:φ=[]:=List.eq_nil_of_length_eq_zero hm.flen
 have hFs:Fs=[]:=List.eq_nil_of_length_eq_zero hm.Flen
 subst hφ hFs
 have notop:∀ b,¬ top [] [] b:=fun b ⟨s,x,c,h,_⟩=>by simp at h
 refine (h.2 w vs (by simpa using hl) fun i x v hxi hvi=>?_).mono ?_
 · have h1:=hv i (ofX x) v (by rw[List.getElem?_map,hxi];rfl) hvi
   have h2:=xrd_vr (hx x (List.mem_of_getElem? hxi)) h1
   cases h2 with
   | d h=>exact .d (h.mono fun b hb=>⟨hb.1,fun _=>rfl⟩)
   | agg h=>exact .agg (h.mono fun b hb=>⟨hb.1,fun _=>rfl⟩)
 · rintro e w' ⟨v,F,rfl,hres,hnd,hge,hb⟩
   refine⟨v,[],[],rfl,⟨⟨hb.os,hb.tape,hb.output,hb.size,fun k hk _=>hb.block k hk⟩,fun b h=>absurd h (notop b),rfl,rfl,by simp,by simp,by simp,fun s x h F hs=>by simp at hs⟩,?_⟩
   have hgood:∀ g,w.heap.size≤g→g<w'.heap.size→good R [] [] w' g:=fun g h1 h2=>⟨h2,notop g,hR rfl g (.inr h1)⟩
   have one:∀ {x:X} {v:Value} {F:List Nat},XOwn P w' x v F→(∀ g∈F,w.heap.size≤g)→VR w' (good R [] [] w') [] [] (ofX x) v:=fun hx hF=>by
    exact ofX_vr (fun _ h=>h) (xown_rd hx fun g hg=>hgood g (hF g hg) (xown_lt hx g hg))
   cases hres with
   | one h1 =>
     cases r with
     | tup xs=>cases h1
     | d d=>exact one h1 hge
     | agg ds=>exact one h1 hge
   | tup hl2 hF2 h2 =>
     rename_i rs us Gs
     refine .tup (by simpa using hl2) fun i x v hx hv=>?_
     rw[List.getElem?_map,Option.map_eq_some_iff] at hx
     obtain⟨y,hy,rfl⟩:=hx
     have hi:=(List.getElem?_eq_some_iff.1 hy).1
     have hG:Gs[i]? = some (Gs[i]'(by omega)):=List.getElem?_eq_getElem _
     exact one (h2 i y v _ hy hv hG) fun g hg=>hge g (mem_flat hG hg)
end Go.Proofs.Ytnjedabjbeipeaa
/-
  Clauses and unit propagation as data. Plain lemmas, about no function of the program.
  Conditions: those typed in each theorem.
-/
namespace Go.Proofs.Ytnjedabjbeipeaa
set_option linter.unusedVariables false
end Go.Proofs.Ytnjedabjbeipeaa
/-
  Contracts of the laws' helpers over formulas, by abstract walks.
  Conditions: those typed in each theorem.
-/
namespace Go.Proofs.Ytnjedabjbeipeaa
open Go.RowKit Go.ChangeShapes Go.WideShapes
set_option linter.unusedVariables false
set_option linter.unusedSimpArgs false
attribute [local simp ↓] condG_true condG_false condB_true condB_false
attribute [local simp] AWp_skip AWp_region_t AWp_region_d AWp_region_f still_mk AWp_seq AWp_cond condV_bool condB AWp_block AWp_exit AWp_ret
attribute [local simp] AOps_nil AOp_move AOp_assign AOp_pick AOp_binOp AOp_unOp AOp_convert AOp_len AOp_max AOp_min AOp_indexAddr AOp_load
attribute [local simp] AOp_fieldAddr AOp_field AOp_extract AOp_nilCheck AOp_build AOp_alloc AOp_box AOp_call AOp_store AOp_append AOp_buildSlice nextB_some
attribute [local simp] nextB_none adoptO adoptC AOp_makeSlice AOp_slice AOp_makeFunc AOp_guard guardD_some guardG_bool guardG_undef nextO_some nextS_some
attribute [local simp] nextZ_some nextL_some nextM_some nextT_some sliceO sliceL sliceT partO partV boundV funcO pickO
attribute [local simp] convO lenO maxO minO idxO extO nilO buildO litO litC makeO chunks
attribute [local simp] fillV placeOf thenA inBlockA St.get St.put St.eval ofCell evalT abin_add abin_sub abin_mul
attribute [local simp] abin_quo abin_rem abin_and abin_or abin_xor abin_andNot abin_shl abin_shr abin_shlu abin_eql abin_eqp abin_neq
attribute [local simp] abin_lss abin_leq abin_gtr abin_geq abin_eqlb abin_neqb aun pickV lenV intOf? indexV takeD
attribute [local simp] takeV loadV fieldAddrV fieldV ofX presD presDs pres presAll cellsV V.cell storeV
attribute [local simp] freezeC putAt kill takeC plains plainV scalarV nat_neg keepT sets eSl e1
attribute [local simp] e2 e3 e4 eInt eBool abinS_d abinS_agg abinS nilEq abin_eqb AOp_makeMap AOp_lookup
attribute [local simp] AOp_mapUpdate lookG_some updG_some mapV kyOf vlOf lookV vlV buildA afterCall inst inst1
attribute [local simp] inst1s instD instDs RetA resVs resV gives give1 give1s Le isPin leSlots
attribute [local simp] leS leTmps leV le0 le0s ren ren0 renS ren0s frame enterT afterT_some
attribute [local simp] afterC_some lives Slot.live arrsOk viewV view0 renT rens renSs setAll List.range'_succ RetT
attribute [local simp] RetW joinV leT AOpsE_nil AOpsE_cons AOpsT_nil AOpsT_cons isCallT isFnO callOf callVC_fn condC_true
attribute [local simp] condC_false beginT_mk beginX_mk AOpsX_zero thenT_mk pickE pickT isT loose namesOf namesV names1
attribute [local simp] names0 stableN sameAt Op.operands Call.operands
end Go.Proofs.Ytnjedabjbeipeaa
/-
  The formula of a net, by abstract walks: both sides.
  Conditions: those typed in each theorem.
-/
namespace Go.Proofs.Ytnjedabjbeipeaa
open Go.RowKit Go.ChangeShapes Go.WideShapes
set_option linter.unusedVariables false
set_option linter.unusedSimpArgs false
attribute [local simp ↓] condG_true condG_false condB_true condB_false
attribute [local simp] AWp_skip AWp_region_t AWp_region_d AWp_region_f still_mk AWp_seq AWp_cond condV_bool condB AWp_block AWp_exit AWp_ret
attribute [local simp] AOps_nil AOp_move AOp_assign AOp_pick AOp_binOp AOp_unOp AOp_convert AOp_len AOp_max AOp_min AOp_indexAddr AOp_load
attribute [local simp] AOp_fieldAddr AOp_field AOp_extract AOp_nilCheck AOp_build AOp_alloc AOp_box AOp_call AOp_store AOp_append AOp_buildSlice nextB_some
attribute [local simp] nextB_none adoptO adoptC AOp_makeSlice AOp_slice AOp_makeFunc AOp_guard guardD_some guardG_bool guardG_undef nextO_some nextS_some
attribute [local simp] nextZ_some nextL_some nextM_some nextT_some sliceO sliceL sliceT partO partV boundV funcO pickO
attribute [local simp] convO lenO maxO minO idxO extO nilO buildO litO litC makeO chunks
attribute [local simp] fillV placeOf thenA inBlockA St.get St.put St.eval ofCell evalT abin_add abin_sub abin_mul
attribute [local simp] abin_quo abin_rem abin_and abin_or abin_xor abin_andNot abin_shl abin_shr abin_shlu abin_eql abin_eqp abin_neq
attribute [local simp] abin_lss abin_leq abin_gtr abin_geq abin_eqlb abin_neqb aun pickV lenV intOf? indexV takeD
attribute [local simp] takeV loadV fieldAddrV fieldV ofX presD presDs pres presAll cellsV V.cell storeV
attribute [local simp] freezeC putAt kill takeC plains plainV scalarV nat_neg keepT sets eSl e1
attribute [local simp] e2 e3 e4 eInt eBool abinS_d abinS_agg abinS nilEq abin_eqb AOp_makeMap AOp_lookup
attribute [local simp] AOp_mapUpdate lookG_some updG_some mapV kyOf vlOf lookV vlV buildA afterCall inst inst1
attribute [local simp] inst1s instD instDs RetA resVs resV gives give1 give1s Le isPin leSlots
attribute [local simp] leS leTmps leV le0 le0s ren ren0 renS ren0s frame enterT afterT_some
attribute [local simp] afterC_some lives Slot.live arrsOk viewV view0 renT rens renSs setAll List.range'_succ RetT
attribute [local simp] RetW joinV leT AOpsE_nil AOpsE_cons AOpsT_nil AOpsT_cons isCallT isFnO callOf callVC_fn condC_true
attribute [local simp] condC_false beginT_mk beginX_mk AOpsX_zero thenT_mk pickE pickT isT loose namesOf namesV names1
attribute [local simp] names0 stableN sameAt Op.operands Call.operands
end Go.Proofs.Ytnjedabjbeipeaa
/-
  Parts of forward retiming, by abstract walks: the program.
  Conditions: those typed in each theorem.
-/
namespace Go.Proofs.Ytnjedabjbeipeaa
open Go.RowKit Go.ChangeShapes Go.WideShapes
set_option linter.unusedVariables false
set_option linter.unusedSimpArgs false
attribute [local simp ↓] condG_true condG_false condB_true condB_false
attribute [local simp] AWp_skip AWp_region_t AWp_region_d AWp_region_f still_mk AWp_seq AWp_cond condV_bool condB AWp_block AWp_exit AWp_ret
attribute [local simp] AOps_nil AOp_move AOp_assign AOp_pick AOp_binOp AOp_unOp AOp_convert AOp_len AOp_max AOp_min AOp_indexAddr AOp_load
attribute [local simp] AOp_fieldAddr AOp_field AOp_extract AOp_nilCheck AOp_build AOp_alloc AOp_box AOp_call AOp_store AOp_append AOp_buildSlice nextB_some
attribute [local simp] nextB_none adoptO adoptC AOp_makeSlice AOp_slice AOp_makeFunc AOp_guard guardD_some guardG_bool guardG_undef nextO_some nextS_some
attribute [local simp] nextZ_some nextL_some nextM_some nextT_some sliceO sliceL sliceT partO partV boundV funcO pickO
attribute [local simp] convO lenO maxO minO idxO extO nilO buildO litO litC makeO chunks
attribute [local simp] fillV placeOf thenA inBlockA St.get St.put St.eval ofCell evalT abin_add abin_sub abin_mul
attribute [local simp] abin_quo abin_rem abin_and abin_or abin_xor abin_andNot abin_shl abin_shr abin_shlu abin_eql abin_eqp abin_neq
attribute [local simp] abin_lss abin_leq abin_gtr abin_geq abin_eqlb abin_neqb aun pickV lenV intOf? indexV takeD
attribute [local simp] takeV loadV fieldAddrV fieldV ofX presD presDs pres presAll cellsV V.cell storeV
attribute [local simp] freezeC putAt kill takeC plains plainV scalarV nat_neg keepT sets eSl e1
attribute [local simp] e2 e3 e4 eInt eBool abinS_d abinS_agg abinS nilEq abin_eqb AOp_makeMap AOp_lookup
attribute [local simp] AOp_mapUpdate lookG_some updG_some mapV kyOf vlOf lookV vlV buildA afterCall inst inst1
attribute [local simp] inst1s instD instDs RetA resVs resV gives give1 give1s Le isPin leSlots
attribute [local simp] leS leTmps leV le0 le0s ren ren0 renS ren0s frame enterT afterT_some
attribute [local simp] afterC_some lives Slot.live arrsOk viewV view0 renT rens renSs setAll List.range'_succ RetT
attribute [local simp] RetW joinV leT AOpsE_nil AOpsE_cons AOpsT_nil AOpsT_cons isCallT isFnO callOf callVC_fn condC_true
attribute [local simp] condC_false beginT_mk beginX_mk AOpsX_zero thenT_mk pickE pickT isT loose namesOf namesV names1
attribute [local simp] names0 stableN sameAt Op.operands Call.operands
def nilSeq (s:SeqD):SeqD:=(s.1,s.2.1,[])
end Go.Proofs.Ytnjedabjbeipeaa
