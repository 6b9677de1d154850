/-
  Use and cost of a mapping, by abstract walks: both sides.
  Conditions: those typed in each theorem.
-/
import Derived.Test.YtklhofpjjbfckaaNq
namespace Go.Proofs.Ytklhofpjjbfckaa
open Go.RowKit Go.ChangeShapes Go.WideShapes
set_option linter.unusedVariables false
set_option linter.unusedSimpArgs false
attribute [local simp ↓] condG_true condG_false condB_true condB_false
attribute [local simp] AWp_skip AWp_region_t AWp_region_d AWp_region_f still_mk AWp_seq AWp_cond condV_bool condB AWp_block AWp_exit AWp_ret
attribute [local simp] AOps_nil AOp_move AOp_assign AOp_pick AOp_binOp AOp_unOp AOp_convert AOp_len AOp_max AOp_min AOp_indexAddr AOp_load
attribute [local simp] AOp_fieldAddr AOp_field AOp_extract AOp_nilCheck AOp_build AOp_alloc AOp_box AOp_call AOp_store AOp_append AOp_buildSlice nextB_some
attribute [local simp] nextB_none adoptO adoptC AOp_makeSlice AOp_slice AOp_makeFunc AOp_guard guardD_some guardG_bool guardG_undef nextO_some nextS_some
attribute [local simp] nextZ_some nextL_some nextM_some nextT_some sliceO sliceL sliceT partO partV boundV funcO pickO
attribute [local simp] convO lenO maxO minO idxO extO nilO buildO litO litC makeO chunks
attribute [local simp] fillV placeOf thenA inBlockA St.get St.put St.eval ofCell evalT abin_add abin_sub abin_mul
attribute [local simp] abin_quo abin_rem abin_and abin_or abin_xor abin_andNot abin_shl abin_shr abin_shlu abin_eql abin_eqp abin_neq
attribute [local simp] abin_lss abin_leq abin_gtr abin_geq abin_eqlb abin_neqb aun pickV lenV intOf? indexV takeD
attribute [local simp] takeV loadV fieldAddrV fieldV ofX presD presDs pres presAll cellsV V.cell storeV
attribute [local simp] freezeC putAt kill takeC plains plainV scalarV nat_neg keepT sets eSl e1
attribute [local simp] e2 e3 e4 eInt eBool abinS_d abinS_agg abinS nilEq abin_eqb AOp_makeMap AOp_lookup
attribute [local simp] AOp_mapUpdate lookG_some updG_some mapV kyOf vlOf lookV vlV buildA afterCall inst inst1
attribute [local simp] inst1s instD instDs RetA resVs resV gives give1 give1s Le isPin leSlots
attribute [local simp] leS leTmps leV le0 le0s ren ren0 renS ren0s frame enterT afterT_some
attribute [local simp] afterC_some lives Slot.live arrsOk viewV view0 renT rens renSs setAll List.range'_succ RetT
attribute [local simp] RetW joinV leT AOpsE_nil AOpsE_cons AOpsT_nil AOpsT_cons isCallT isFnO callOf callVC_fn condC_true
attribute [local simp] condC_false beginT_mk thenT_mk pickE pickT isT loose namesOf namesV names1 names0 stableN
attribute [local simp] sameAt Op.operands Call.operands
attribute [local simp] mcone_len esc_len
theorem rootsN_in {x:GrD} (hok:netOkB x=true):∀ y∈grRoots x,0≤y∧y<2*(grN x:Int):=(netOk_of hok).2.2.1
theorem rootsN_len {x:GrD} (hok:netOkB x=true):(grRoots x).length≤64:=by
 obtain⟨⟨n1,n2,n3,n4,n5,n6⟩,o1,-,-⟩:=netOk_of hok
 have h1:=grK_len (x:=x) (k:=x.2.1.length) (M:=4) (fun s hs=>seqOk_len (o1 s hs))
 rw[grK_all] at h1
 omega
theorem cut_below {x:GrD} {cs:List RowD} (hm:mapOkB x cs=true) {p:Nat} {c:RowD} (hc:cs[p]? = some c):∀ y∈c,0≤y∧y<((firstG x+p:Nat):Int):=fun y hy=>by
 obtain⟨hok,hl,hcs⟩:=mapOk_of hm
 obtain⟨hat,-,hin⟩:=hcs p c hc
 have hp:p<cs.length:=(List.getElem?_eq_some_iff.1 hc).1
 have hN:=grN_eq x
 have hv:firstG x+p<grN x:=by omega
 obtain⟨y0,y1⟩:=hin y hy
 simp only[mapAtB,cutOkB,Bool.and_eq_true,decide_eq_true_eq,Bool.not_eq_true',hasB,decide_eq_false_iff_not] at hat
 obtain⟨h1,⟨⟨-,h2⟩,h3⟩,-⟩:=hat
 have hb:=List.all_eq_true.1 h3 y hy
 obtain⟨u,rfl⟩:∃ u:Nat,y=u:=⟨y.toNat,by omega⟩
 rw[marks_has] at hb
 have hr:=(cone_iff hok hv u).1 hb
 have hle:=Rch.le (kids_lt hok) hr hv
 have hne:u≠firstG x+p:=fun e=>h1 (by rw[←e];exact hy)
 omega
end Go.Proofs.Ytklhofpjjbfckaa
/-
  Levels of a mapping. Plain lemmas.
  Conditions: those typed in each theorem.
-/
namespace Go.Proofs.Ytklhofpjjbfckaa
open Go.RowKit Go.ChangeShapes Go.WideShapes
set_option linter.unusedVariables false
set_option linter.unusedSimpArgs false
theorem lvM_stay {x:GrD} {cs:List RowD} {v i:Nat} (h:v<firstG x+i):∀ d,atI (lvM x cs (i+d)) (v:Int)=atI (lvM x cs i) (v:Int)
 | 0=>rfl
 | d+1=>by
   have ih:=lvM_stay (x:=x) (cs:=cs) h d
   rw[←ih]
   show atI ((lvM x cs (i+d)).set (firstG x+(i+d)) _) (v:Int)=_
   unfold atI
   rw[Int.toNat_natCast,List.getElem?_set_ne (by omega)]
theorem lvL_low {x:GrD} {cs:List RowD} {v:Nat} (h:v<firstG x):atI (levelsL x cs) (v:Int)=0:=by
 have:=lvM_stay (x:=x) (cs:=cs) (v:=v) (i:=0) (by omega) cs.length
 rw[Nat.zero_add] at this
 unfold levelsL
 rw[this]
 unfold lvM atI
 rw[List.getElem?_replicate]
 split<;>rfl
theorem mxK_congr {lv lv' c:List Int} (h:∀ y∈c,atI lv y=atI lv' y):∀ j,j≤c.length→mxK lv c j=mxK lv' c j
 | 0,_=>rfl
 | j+1,hj=>by
   have ih:=mxK_congr h j (by omega)
   have hc:c[j]? = some c[j]:=List.getElem?_eq_getElem (by omega)
   unfold mxK
   rw[ih,atI_get hc,h _ (List.getElem_mem _)]
theorem lvL_at {x:GrD} {cs:List RowD} (hm:mapOkB x cs=true) {i:Nat} {c:RowD} (hc:cs[i]? = some c):atI (levelsL x cs) ((firstG x+i:Nat):Int)=1+mxK (levelsL x cs) c c.length:=by
 obtain⟨hok,hl,hcs⟩:=mapOk_of hm
 have hN:=grN_eq x
 have hi:=(List.getElem?_eq_some_iff.1 hc).1
 have h1:=lvM_stay (x:=x) (cs:=cs) (v:=firstG x+i) (i:=i+1) (by omega) (cs.length - (i+1))
 rw[show i+1+(cs.length - (i+1))=cs.length by omega] at h1
 unfold levelsL
 rw[h1]
 have h2:atI (lvM x cs (i+1)) ((firstG x+i:Nat):Int)=1+mxK (lvM x cs i) c c.length:=by
  show atI ((lvM x cs i).set (firstG x+i) (1+mxK (lvM x cs i) ((cs[i]?).getD []) ((cs[i]?).getD []).length)) _=_
  unfold atI
  rw[Int.toNat_natCast,List.getElem?_set_self (by rw[lvM_len];omega),hc]
  rfl
 rw[h2]
 congr 1
 refine mxK_congr (fun y hy=>?_) _ (Nat.le_refl _)
 obtain⟨y0,y1⟩:=cut_below hm hc y hy
 obtain⟨v,rfl⟩:∃ v:Nat,y=v:=⟨y.toNat,by omega⟩
 have h3:=lvM_stay (x:=x) (cs:=cs) (v:=v) (i:=i) (by omega) (cs.length - i)
 rw[show i+(cs.length - i)=cs.length by omega] at h3
 exact h3.symm
end Go.Proofs.Ytklhofpjjbfckaa
