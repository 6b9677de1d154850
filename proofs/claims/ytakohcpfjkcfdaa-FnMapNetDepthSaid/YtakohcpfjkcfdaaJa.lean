/-
  The exported functions on mappings, by abstract walks: both sides.
  Conditions: those typed in each theorem.
-/
import Derived.Test.YtakohcpfjkcfdaaMa
import Derived.Test.YtakohcpfjkcfdaaLc
import Derived.Test.YtakohcpfjkcfdaaHh
namespace Go.Proofs.Ytakohcpfjkcfdaa
open Go.RowKit Go.ChangeShapes Go.WideShapes
set_option linter.unusedVariables false
set_option linter.unusedSimpArgs false
attribute [local simp ↓] condG_true condG_false condB_true condB_false
attribute [local simp] AWp_skip AWp_region_t AWp_region_d AWp_region_f still_mk AWp_seq AWp_cond condV_bool condB AWp_block AWp_exit AWp_ret
attribute [local simp] AOps_nil AOp_move AOp_assign AOp_pick AOp_binOp AOp_unOp AOp_convert AOp_len AOp_max AOp_min AOp_indexAddr AOp_load
attribute [local simp] AOp_fieldAddr AOp_field AOp_extract AOp_nilCheck AOp_build AOp_alloc AOp_box AOp_call AOp_store AOp_append AOp_buildSlice nextB_some
attribute [local simp] nextB_none adoptO adoptC AOp_makeSlice AOp_slice AOp_makeFunc AOp_guard guardD_some guardG_bool guardG_undef nextO_some nextS_some
attribute [local simp] nextZ_some nextL_some nextM_some nextT_some sliceO sliceL sliceT partO partV boundV funcO pickO
attribute [local simp] convO lenO maxO minO idxO extO nilO buildO litO litC makeO chunks
attribute [local simp] fillV placeOf thenA inBlockA St.get St.put St.eval ofCell evalT abin_add abin_sub abin_mul
attribute [local simp] abin_quo abin_rem abin_and abin_or abin_xor abin_andNot abin_shl abin_shr abin_shlu abin_eql abin_eqp abin_neq
attribute [local simp] abin_lss abin_leq abin_gtr abin_geq abin_eqlb abin_neqb aun pickV lenV intOf? indexV takeD
attribute [local simp] takeV loadV fieldAddrV fieldV ofX presD presDs pres presAll cellsV V.cell storeV
attribute [local simp] freezeC putAt kill takeC plains plainV scalarV nat_neg keepT sets eSl e1
attribute [local simp] e2 e3 e4 eInt eBool abinS_d abinS_agg abinS nilEq abin_eqb AOp_makeMap AOp_lookup
attribute [local simp] AOp_mapUpdate lookG_some updG_some mapV kyOf vlOf lookV vlV buildA afterCall inst inst1
attribute [local simp] inst1s instD instDs RetA resVs resV gives give1 give1s Le isPin leSlots
attribute [local simp] leS leTmps leV le0 le0s ren ren0 renS ren0s frame enterT afterT_some
attribute [local simp] afterC_some lives Slot.live arrsOk viewV view0 renT rens renSs setAll List.range'_succ RetT
attribute [local simp] RetW joinV leT AOpsE_nil AOpsE_cons AOpsT_nil AOpsT_cons isCallT isFnO callOf callVC_fn condC_true
attribute [local simp] condC_false beginT_mk thenT_mk pickE pickT isT loose namesOf namesV names1 names0 stableN
attribute [local simp] sameAt Op.operands Call.operands
attribute [local simp] mcone_len esc_len
def ifMap {α:Type} (x:GrD) (cs:List RowD) (a b:α):α:=if mapOkB x cs=true then a else b
def betterB (x:GrD) (a b:List RowD):Bool:=decide (depthL x a≤depthL x b)&&(decide ((costL x a).1<(costL x b).1)||decide ((costL x a).1=(costL x b).1)&&decide ((costL x a).2.1<(costL x b).2.1))
theorem iMapDepth_con (x:GrD) (cs:List RowD) (hx:fitGr 1048576 x) (hc:fitRw 1048576 cs):ConC Try.prog 11 [igr x,irows cs] (.d (.int .i64 (ifMap x cs (depthL x cs) (-1)))):=by
 refine con_of (by kernel_rfl) Try.func11 rfl rfl rfl ?_
 simp[enGr]
 refine call_step (iMapOk_con x cs hx hc) ?_
 simp
 rcases Bool.eq_false_or_eq_true (mapOkB x cs) with h|h
 case inr=>simp[h,ifMap]
 have hd:(costL x cs).2.2=depthL x cs:=rfl
 simp[h,ifMap]
 refine call_step (iCost_con x cs hx hc h) ?_
 simp[hd]
theorem ibetter_con (x:GrD) (a b:List RowD) (hx:fitGr 1048576 x) (ha:fitRw 1048576 a) (hb:fitRw 1048576 b) (ma:mapOkB x a=true) (mb:mapOkB x b=true):ConC Try.prog 39 [igr x,irows a,irows b] (.d (.bool (betterB x a b))):=by
 have hda:(costL x a).2.2=depthL x a:=rfl
 have hdb:(costL x b).2.2=depthL x b:=rfl
 refine con_of (by kernel_rfl) Try.func39 rfl rfl rfl ?_
 simp[enGr]
 refine call_step (iCost_con x a hx ha ma) ?_
 simp[hda]
 refine call_step (iCost_con x b hx hb mb) ?_
 simp[hdb]
 unfold betterB
 generalize depthL x a=da
 generalize depthL x b=db
 generalize (costL x a).1=ca
 generalize (costL x b).1=cb
 generalize (costL x a).2.1=ea
 generalize (costL x b).2.1=eb
 have hbe:(ca==cb)=decide (ca=cb):=rfl
 by_cases h1:da≤db<;>by_cases h2:ca<cb<;>by_cases h3:ca=cb<;>simp[h1,h2,h3,hbe]
end Go.Proofs.Ytakohcpfjkcfdaa
/-
  Area recovery as plain lists: it keeps a mapping and is never worse. Plain lemmas.
  Conditions: those typed in each theorem.
-/
namespace Go.Proofs.Ytakohcpfjkcfdaa
open Go.RowKit Go.ChangeShapes Go.WideShapes
set_option linter.unusedVariables false
set_option linter.unusedSimpArgs false
def stR (x:GrD) (i:Nat) (now:List RowD) (c:RowD):List RowD:=if betterB x (now.set i c) now=true then now.set i c else now
def rowR (x:GrD) (i:Nat) (now:List RowD) (k:Nat):List RowD:=((enumL x (firstG x+i)).take k).foldl (stR x i) now
def ndR (x:GrD) (now:List RowD) (i:Nat):List RowD:=if getB (usedL x now) i=true then rowR x i now ((enumL x (firstG x+i)).length - 1) else now
def recK (x:GrD) (cs:List RowD):Nat→List RowD
 | 0=>cs
 | j+1=>ndR x (recK x cs j) (x.2.2.1.length - 1 - j)
def recL (x:GrD) (cs:List RowD):List RowD:=if mapOkB x cs=true then recK x cs x.2.2.1.length else []
theorem mapOk_mk2 {x:GrD} {cs:List RowD} (hok:netOkB x=true) (hl:cs.length=x.2.2.1.length) (h:∀ (k:Nat) (c:RowD),cs[k]? = some c→mapAtB x c k=true):mapOkB x cs=true:=by
 simp only[mapOkB,Bool.and_eq_true,decide_eq_true_eq]
 refine⟨⟨hok,hl⟩,?_⟩
 unfold mapsB
 rw[List.all_eq_true]
 intro i hi
 have hil:=List.mem_range.1 hi
 rw[List.getElem?_eq_getElem hil]
 exact h i _ (List.getElem?_eq_getElem hil)
theorem mapOk_set {x:GrD} {cs:List RowD} {i:Nat} {c:RowD} (hm:mapOkB x cs=true) (h:mapAtB x c i=true):mapOkB x (cs.set i c)=true:=by
 obtain⟨hok,hl,hcs⟩:=mapOk_of hm
 refine mapOk_mk2 hok (by rw[List.length_set];exact hl) fun k r hr=>?_
 rw[List.getElem?_set] at hr
 split at hr
 · rename_i e
   subst e
   split at hr
   · cases hr;exact h
   · cases hr
 · exact (hcs k r hr).1
def NwP (x:GrD) (a b:List RowD):Prop:=mapOkB x a=true∧depthL x a≤depthL x b∧((costL x a).1<(costL x b).1∨(costL x a).1=(costL x b).1∧(costL x a).2.1≤(costL x b).2.1)
theorem NwP.refl {x:GrD} {a:List RowD} (h:mapOkB x a=true):NwP x a a:=⟨h,Int.le_refl _,.inr ⟨rfl,Int.le_refl _⟩⟩
theorem NwP.trans {x:GrD} {a b c:List RowD} (h1:NwP x a b) (h2:NwP x b c):NwP x a c:=by
 obtain⟨m1,d1,c1⟩:=h1
 obtain⟨-,d2,c2⟩:=h2
 exact⟨m1,by omega,by omega⟩
theorem stR_nw {x:GrD} {i:Nat} {now:List RowD} {c:RowD} (hm:mapOkB x now=true) (h:mapAtB x c i=true):NwP x (stR x i now c) now:=by
 unfold stR
 split
 · rename_i hb
   unfold betterB at hb
   simp only[Bool.and_eq_true,Bool.or_eq_true,decide_eq_true_eq] at hb
   exact⟨mapOk_set hm h,hb.1,by omega⟩
 · exact .refl hm
theorem rowR_nw {x:GrD} {i:Nat} {now:List RowD} (hm:mapOkB x now=true) (hi:firstG x+i<grN x):∀ k,k≤(enumL x (firstG x+i)).length - 1→NwP x (rowR x i now k) now
 | 0,_=>.refl hm
 | k+1,hk=>by
   have ih:=rowR_nw hm hi k (by omega)
   obtain⟨hok,hl,hcs⟩:=mapOk_of hm
   obtain⟨e2,e8,eM⟩:=enumL_map hok (i:=i) hi
   have hc:(enumL x (firstG x+i))[k]? = some (enumL x (firstG x+i))[k]:=List.getElem?_eq_getElem (by omega)
   unfold rowR
   rw[foldl_take2 hc]
   exact (stR_nw ih.1 (eM k _ hc (by omega))).trans ih
theorem rowR_succ {x:GrD} {i:Nat} {now:List RowD} {k:Nat} {c:RowD} (hc:(enumL x (firstG x+i))[k]? = some c):rowR x i now (k+1)=stR x i (rowR x i now k) c:=by
 unfold rowR
 exact foldl_take2 hc
theorem ndR_nw {x:GrD} {now:List RowD} {i:Nat} (hm:mapOkB x now=true) (hi:firstG x+i<grN x):NwP x (ndR x now i) now:=by
 unfold ndR
 split
 · exact rowR_nw hm hi _ (Nat.le_refl _)
 · exact .refl hm
theorem recK_nw {x:GrD} {cs:List RowD} (hm:mapOkB x cs=true):∀ j,j≤x.2.2.1.length→NwP x (recK x cs j) cs
 | 0,_=>.refl hm
 | j+1,hj=>by
   have hN:=grN_eq x
   have ih:=recK_nw hm j (by omega)
   exact (ndR_nw ih.1 (by omega)).trans ih
theorem dpK_mono {a b rs:List Int}:∀ j,j≤rs.length→(∀ r∈rs,atI a (r / 2)≤atI b (r / 2))→dpK a rs j≤dpK b rs j
 | 0,_,_=>Int.le_refl _
 | j+1,hj,h=>by
   have ih:=dpK_mono (a:=a) (b:=b) j (by omega) h
   have hr:rs[j]? = some rs[j]:=List.getElem?_eq_getElem (by omega)
   have h2:=h _ (List.getElem_mem (show j<rs.length by omega))
   unfold dpK
   rw[atI_get hr]
   unfold mx
   split<;>split<;>omega
end Go.Proofs.Ytakohcpfjkcfdaa
/-
  The mapping of least depth and area recovery: no mapping is shallower. Plain lemmas.
  Conditions: those typed in each theorem.
-/
namespace Go.Proofs.Ytakohcpfjkcfdaa
open Go.RowKit Go.ChangeShapes Go.WideShapes
set_option linter.unusedVariables false
set_option linter.unusedSimpArgs false
theorem depth_least {x:GrD} {cs:List RowD} (hm:mapOkB x cs=true):depthL x (depthMap x)≤depthL x cs:=by
 obtain⟨hok,hl,hcs⟩:=mapOk_of hm
 unfold depthL
 rw[depth_lv hok]
 refine dpK_mono _ (Nat.le_refl _) fun r hr=>?_
 have h:=rootsN_in hok r hr
 obtain⟨q,hq⟩:∃ q:Nat,r / 2=q:=⟨(r / 2).toNat,by omega⟩
 rw[hq,getZ_atI]
 exact lab_le_lv hm q (by omega)
theorem net_depth {x:GrD} (hok:netOkB x=true):mapOkB x (recL x (depthMap x))=true∧depthL x (recL x (depthMap x))=depthL x (depthMap x):=by
 have hd:=depth_ok hok
 have hr:recL x (depthMap x)=recK x (depthMap x) x.2.2.1.length:=if_pos hd
 have hn:=recK_nw hd x.2.2.1.length (Nat.le_refl _)
 rw[hr]
 exact⟨hn.1,Int.le_antisymm hn.2.1 (depth_least hn.1)⟩
theorem dp_best {x:GrD} (hok:netOkB x=true):depthL x (depthMap x)=dpK (labelsL x) (grRoots x) (grRoots x).length:=by
 unfold depthL
 rw[depth_lv hok]
end Go.Proofs.Ytakohcpfjkcfdaa
