/-
  Searching for a way, by the program: leaves, nodes below a node, visits as what has been reached. By abstract walks.
  Conditions: those typed in each theorem.
-/
import Derived.Test.YtakohcpfjkcfdaaHb
import Derived.Test.YtakohcpfjkcfdaaNj
namespace Go.Proofs.Ytakohcpfjkcfdaa
open Go.RowKit Go.ChangeShapes Go.WideShapes
set_option linter.unusedVariables false
set_option linter.unusedSimpArgs false
attribute [local simp ↓] condG_true condG_false condB_true condB_false
attribute [local simp] AWp_skip AWp_region_t AWp_region_d AWp_region_f still_mk AWp_seq AWp_cond condV_bool condB AWp_block AWp_exit AWp_ret
attribute [local simp] AOps_nil AOp_move AOp_assign AOp_pick AOp_binOp AOp_unOp AOp_convert AOp_len AOp_max AOp_min AOp_indexAddr AOp_load
attribute [local simp] AOp_fieldAddr AOp_field AOp_extract AOp_nilCheck AOp_build AOp_alloc AOp_box AOp_call AOp_store AOp_append AOp_buildSlice nextB_some
attribute [local simp] nextB_none adoptO adoptC AOp_makeSlice AOp_slice AOp_makeFunc AOp_guard guardD_some guardG_bool guardG_undef nextO_some nextS_some
attribute [local simp] nextZ_some nextL_some nextM_some nextT_some sliceO sliceL sliceT partO partV boundV funcO pickO
attribute [local simp] convO lenO maxO minO idxO extO nilO buildO litO litC makeO chunks
attribute [local simp] fillV placeOf thenA inBlockA St.get St.put St.eval ofCell evalT abin_add abin_sub abin_mul
attribute [local simp] abin_quo abin_rem abin_and abin_or abin_xor abin_andNot abin_shl abin_shr abin_shlu abin_eql abin_eqp abin_neq
attribute [local simp] abin_lss abin_leq abin_gtr abin_geq abin_eqlb abin_neqb aun pickV lenV intOf? indexV takeD
attribute [local simp] takeV loadV fieldAddrV fieldV ofX presD presDs pres presAll cellsV V.cell storeV
attribute [local simp] freezeC putAt kill takeC plains plainV scalarV nat_neg keepT sets eSl e1
attribute [local simp] e2 e3 e4 eInt eBool abinS_d abinS_agg abinS nilEq abin_eqb AOp_makeMap AOp_lookup
attribute [local simp] AOp_mapUpdate lookG_some updG_some mapV kyOf vlOf lookV vlV buildA afterCall inst inst1
attribute [local simp] inst1s instD instDs RetA resVs resV gives give1 give1s Le isPin leSlots
attribute [local simp] leS leTmps leV le0 le0s ren ren0 renS ren0s frame enterT afterT_some
attribute [local simp] afterC_some lives Slot.live arrsOk viewV view0 renT rens renSs setAll List.range'_succ RetT
attribute [local simp] RetW joinV leT AOpsE_nil AOpsE_cons AOpsT_nil AOpsT_cons isCallT isFnO callOf callVC_fn condC_true
attribute [local simp] condC_false beginT_mk thenT_mk pickE pickT isT loose namesOf namesV names1 names0 stableN
attribute [local simp] sameAt Op.operands Call.operands
theorem isLeaf_con (x:GrD) (k:Nat) (h1:0≤x.1∧x.1≤20) (h2:x.2.1.length≤12):ConC Try.prog 82 [igr x,.d (.int .i64 k)] (.d (.bool (decide (0<k)&&decide (k<firstG x)))):=by
 have hF:(firstG x:Int)=1+x.1+x.2.1.length:=by unfold firstG;omega
 refine con_of (by kernel_rfl) Try.func82 rfl rfl rfl ?_
 by_cases h0:0<k
 · simp[enGr,decide_eq_true h0,h0]
   refine call_step (firstAnd_con x h1 h2) ?_
   simp
   omega
 · simp[enGr,decide_eq_false h0,h0]
set_option maxRecDepth 100000 in
theorem kidsOf_con (x:GrD) (k:Nat) (hx:fitGr 1048576 x) (hok:netOkB x=true) (hk:k<grN x):ConC Try.prog 56 [igr x,.d (.int .i64 k)] (.d (eSl 3 (e1 eInt) ((kidsL (firstG x) (kidA x) (kidB x) k).map fun c:Nat=>(c:Int)))):=by
 obtain⟨⟨n1,n2,n3,n4,n5,n6⟩,-,-,-⟩:=netOk_of hok
 have hF:(firstG x:Int)=1+x.1+x.2.1.length:=by unfold firstG;omega
 have hN:=grN_eq x
 have kA:=isAnd_con x k ⟨n1,n2⟩ n3 n4
 refine con_ofD (by kernel_rfl) Try.func56 rfl rfl rfl ?_
 by_cases hf:firstG x≤k
 case neg =>
  rw[decide_eq_false hf,Bool.false_and] at kA
  have hr:kidsL (firstG x) (kidA x) (kidB x) k=[]:=by unfold kidsL;rw[if_pos (by omega)]
  simp[enGr]
  refine call_step (kA) ?_
  simp[hr]
 rw[decide_eq_true hf,decide_eq_true hk,Bool.true_and] at kA
 obtain⟨a0,a1,a2,a3,a4,a5,a6⟩:=and_at hok hf hk
 obtain⟨i,hi⟩:∃ i,k - firstG x=i:=⟨_,rfl⟩
 rw[hi] at a0
 have w1:IntKind.i64.wrap ((k:Int) - (1+x.1+x.2.1.length))=(i:Int):=by rw[wrap_id (by omega) (by omega)];omega
 have hd:decide (i<x.2.2.1.length)=true:=decide_eq_true (by omega)
 have hL:(enAnd (andAt x k)).length=2:=rfl
 have hs1:IntKind.i64.wrap ((andAt x k).1.tdiv 2)=(kidA x k:Int):=by rw[←a3];exact quo2 a1 (by omega)
 have hs2:IntKind.i64.wrap ((andAt x k).2.tdiv 2)=(kidB x k:Int):=by rw[←a4];exact quo2 a2 (by omega)
 generalize andAt x k=an at *
 have hnf:¬ k<firstG x:=by omega
 have hkl:kidsL (firstG x) (kidA x) (kidB x) k=if kidA x k=kidB x k then [kidA x k] else [kidA x k,kidB x k]:=by unfold kidsL;rw[if_neg (by omega)]
 rw[hkl]
 generalize kidA x k=ka at *
 generalize kidB x k=kb at *
 simp[enGr]
 refine call_step (kA) ?_
 simp
 refine drawD_of 9 (by kernel_rfl) ?_
 simp[enGr]
 refine call_step (firstAnd_con x ⟨n1,n2⟩ n3) ?_
 simp[w1,a0,hd,hL,enAnd,hs1,hs2,enGr]
 by_cases he:ka=kb
 · subst he
   simp
 · have he':((ka:Int)==(kb:Int))=false:=by simp;omega
   simp[he,he']
   omega
theorem getE_dn {es:Es} {a:Nat}:getM (mpE es) ((a:Int),.inl false)=(srcE es (2*a+1)).map vlT:=by
 have h:=mpE_get (es:=es) (t:=2*a+1)
 have e:kyT (2*a+1)=((a:Int),.inl false):=by
  unfold kyT
  rw[decide_eq_false (by omega),show (2*a+1) / 2=a by omega]
 rwa [e] at h
theorem getE_up {es:Es} {a:Nat}:getM (mpE es) ((a:Int),.inl true)=(srcE es (2*a)).map vlT:=by
 have h:=mpE_get (es:=es) (t:=2*a)
 have e:kyT (2*a)=((a:Int),.inl true):=by
  unfold kyT
  rw[decide_eq_true (by omega),show 2*a / 2=a by omega]
 rwa [e] at h
theorem mpE_dn {es:Es} {a c:Nat}:mpE (es++[(2*a+1,((2*c:Nat):Int))])=mpE es++[(((a:Int),.inl false),((c:Int),some true))]:=by
 rw[mpE_app]
 unfold kyT vlT
 rw[decide_eq_false (by omega),decide_eq_true (by omega),show (2*a+1) / 2=a by omega,show ((2*c:Nat):Int) / 2=c by omega]
theorem mpE_up {es:Es} {a c:Nat}:mpE (es++[(2*a,((2*c+1:Nat):Int))])=mpE es++[(((a:Int),.inl true),((c:Int),some false))]:=by
 rw[mpE_app]
 unfold kyT vlT
 rw[decide_eq_true (by omega),decide_eq_false (by omega),show 2*a / 2=a by omega,show ((2*c+1:Nat):Int) / 2=c by omega]
theorem rowT_dn {a:Nat}:rowT (2*a+1)=[.int .i64 (a:Int),.bool false]:=by
 unfold rowT
 rw[decide_eq_false (by omega),show (2*a+1) / 2=a by omega]
theorem rowT_up {a:Nat}:rowT (2*a)=[.int .i64 (a:Int),.bool true]:=by
 unfold rowT
 rw[decide_eq_true (by omega),show 2*a / 2=a by omega]
abbrev slE (es:Es) (q:Nat):List Slot:=[.var 79 [.ref 1],.blk (.mp 79 (mpE es)),.var 100 [.ref 3],.blk (.que 84 2 (quE es q))]
abbrev slN (es:Es) (q:Nat):List Slot:=[.var 79 [.ref 1],.blk (.mp 79 (mpE es)),.var 100 [.ref 4],.dead,.blk (.que 84 2 (quE es q))]
theorem quE_len {es:Es} {q:Nat}:(quE es q).length=es.length - q:=by simp[quE]
theorem visit_dn_old {es:Es} {q a c:Nat} (ha:a≤1048576) (h:2*a+1∈keyE es):ConT Try.prog 81 [vStep a false,vStep c true,.ptr 0 0,.ptr 2 0] (slE es q) (.tup []) (slE es q):=by
 cases hs:srcE es (2*a+1) with
 | none=>exact absurd h (srcE_none.1 hs)
 | some z=>exact visit_old _ _ a c _ false true _ (by omega) (by rw[getE_dn,hs];rfl)
theorem visit_up_old {es:Es} {q a c:Nat} (ha:a≤1048576) (h:2*a∈keyE es):ConT Try.prog 81 [vStep a true,vStep c false,.ptr 0 0,.ptr 2 0] (slE es q) (.tup []) (slE es q):=by
 cases hs:srcE es (2*a) with
 | none=>exact absurd h (srcE_none.1 hs)
 | some z=>exact visit_old _ _ a c _ true false _ (by omega) (by rw[getE_up,hs];rfl)
theorem visit_dn_new {es:Es} {q a c:Nat} (ha:a≤1048576) (h:¬ 2*a+1∈keyE es) (hq:q≤es.length) (hl:es.length≤1048576):ConT Try.prog 81 [vStep a false,vStep c true,.ptr 0 0,.ptr 2 0] (slE es q) (.tup []) (slN (es++[(2*a+1,((2*c:Nat):Int))]) q):=by
 have hs:=srcE_none.2 h
 have:=visit_new (mpE es) (quE es q) a c false true (by omega) (by rw[getE_dn,hs];rfl) (by rw[quE_len];omega)
 unfold slN slE
 rw[mpE_dn,quE_app hq,rowT_dn]
 exact this
theorem visit_up_new {es:Es} {q a c:Nat} (ha:a≤1048576) (h:¬ 2*a∈keyE es) (hq:q≤es.length) (hl:es.length≤1048576):ConT Try.prog 81 [vStep a true,vStep c false,.ptr 0 0,.ptr 2 0] (slE es q) (.tup []) (slN (es++[(2*a,((2*c+1:Nat):Int))]) q):=by
 have hs:=srcE_none.2 h
 have:=visit_new (mpE es) (quE es q) a c true false (by omega) (by rw[getE_up,hs];rfl) (by rw[quE_len];omega)
 unfold slN slE
 rw[mpE_up,quE_app hq,rowT_up]
 exact this
end Go.Proofs.Ytakohcpfjkcfdaa
