/-
  Places of a net's nodes, by abstract walks: the program.
  Conditions: those typed in each theorem.
-/
import Derived.Test.YtnjedabjbeipeaaRa
import Derived.Test.YtnjedabjbeipeaaNp
namespace Go.Proofs.Ytnjedabjbeipeaa
open Go.RowKit Go.ChangeShapes Go.WideShapes
set_option linter.unusedVariables false
set_option linter.unusedSimpArgs false
attribute [local simp ↓] condG_true condG_false condB_true condB_false
attribute [local simp] AWp_skip AWp_region_t AWp_region_d AWp_region_f still_mk AWp_seq AWp_cond condV_bool condB AWp_block AWp_exit AWp_ret
attribute [local simp] AOps_nil AOp_move AOp_assign AOp_pick AOp_binOp AOp_unOp AOp_convert AOp_len AOp_max AOp_min AOp_indexAddr AOp_load
attribute [local simp] AOp_fieldAddr AOp_field AOp_extract AOp_nilCheck AOp_build AOp_alloc AOp_box AOp_call AOp_store AOp_append AOp_buildSlice nextB_some
attribute [local simp] nextB_none adoptO adoptC AOp_makeSlice AOp_slice AOp_makeFunc AOp_guard guardD_some guardG_bool guardG_undef nextO_some nextS_some
attribute [local simp] nextZ_some nextL_some nextM_some nextT_some sliceO sliceL sliceT partO partV boundV funcO pickO
attribute [local simp] convO lenO maxO minO idxO extO nilO buildO litO litC makeO chunks
attribute [local simp] fillV placeOf thenA inBlockA St.get St.put St.eval ofCell evalT abin_add abin_sub abin_mul
attribute [local simp] abin_quo abin_rem abin_and abin_or abin_xor abin_andNot abin_shl abin_shr abin_shlu abin_eql abin_eqp abin_neq
attribute [local simp] abin_lss abin_leq abin_gtr abin_geq abin_eqlb abin_neqb aun pickV lenV intOf? indexV takeD
attribute [local simp] takeV loadV fieldAddrV fieldV ofX presD presDs pres presAll cellsV V.cell storeV
attribute [local simp] freezeC putAt kill takeC plains plainV scalarV nat_neg keepT sets eSl e1
attribute [local simp] e2 e3 e4 eInt eBool abinS_d abinS_agg abinS nilEq abin_eqb AOp_makeMap AOp_lookup
attribute [local simp] AOp_mapUpdate lookG_some updG_some mapV kyOf vlOf lookV vlV buildA afterCall inst inst1
attribute [local simp] inst1s instD instDs RetA resVs resV gives give1 give1s Le isPin leSlots
attribute [local simp] leS leTmps leV le0 le0s ren ren0 renS ren0s frame enterT afterT_some
attribute [local simp] afterC_some lives Slot.live arrsOk viewV view0 renT rens renSs setAll List.range'_succ RetT
attribute [local simp] RetW joinV leT AOpsE_nil AOpsE_cons AOpsT_nil AOpsT_cons isCallT isFnO callOf callVC_fn condC_true
attribute [local simp] condC_false beginT_mk beginX_mk AOpsX_zero thenT_mk pickE pickT isT loose namesOf namesV names1
attribute [local simp] names0 stableN sameAt Op.operands Call.operands
def padL (p:List Int) (n:Nat):List Int:=p++List.replicate (n - p.length) 0
theorem padL_len {p:List Int} {n:Nat} (h:p.length≤n):(padL p n).length=n:=by simp[padL];omega
theorem padL_set {p:List Int} {n:Nat} {v:Int} (h:p.length<n):(padL p n).set p.length v=padL (p++[v]) n:=by
 unfold padL
 rw[List.set_append_right _ _ (Nat.le_refl _),Nat.sub_self]
 obtain⟨m,hm⟩:∃ m,n - p.length=m+1:=⟨n - p.length - 1,by omega⟩
 rw[hm,List.replicate_succ,List.set_cons_zero,List.append_assoc]
 congr 1
 rw[List.length_append,List.length_cons,List.length_nil,show n - (p.length+(0+1))=m by omega]
 rfl
theorem padL_all {p:List Int} {n:Nat} (h:p.length=n):padL p n=p:=by simp[padL,h]
theorem mapV_pad {p:List Int} {n:Nat} {l:Int} (h:0≤l∧l<2*(p.length:Int)):plMapV (padL p n) l=plMapV p l:=mapV_append h
theorem padL_setD {p:List Int} {n:Nat} {v:Int} (h:p.length<n):((padL p n).map (e1 eInt)).set p.length [.int .i64 v]=(padL (p++[v]) n).map (e1 eInt):=by
 rw[←padL_set h];exact setI
theorem leafLits_con (x:GrD) (hx:fitGr 1048576 x) (hok:netOkB x=true):ConC Try.prog 62 [igr x] (ints (padL (leafL (firstG x)) (grN x))):=by
 obtain⟨⟨n1,n2,n3,n4,n5,n6⟩,-,-,-⟩:=netOk_of hok
 obtain⟨hF,hgl,hNi,hno⟩:=ok_sizes hok
 have hN:=grN_eq x
 have hNt:(1+x.1+(x.2.1.length:Int)+(x.2.2.1.length:Int)).toNat=grN x:=by omega
 have hrep:List.replicate (grN x) [D.int .i64 0]=(padL (leafL 0) (grN x)).map (e1 eInt):=by simp[padL,leafL,e1,eInt]
 refine con_of (by kernel_rfl) Try.func62 rfl rfl rfl ?_
 simp[enGr]
 refine call_step (iNodeCnt_con x ⟨n1,n2⟩ n3 n4) ?_
 simp
 refine⟨⟨by omega,by omega⟩,?_⟩
 rw[hNt,hrep]
 refine aw_loopU [false,true,false,true,true,false,false,false,false,false,false,false,false,false,false,false,false,false,false,false] (fun i:Nat=>i≤firstG x) (fun i:Nat=>[(4,.d (.int .i64 i))]) (fun i:Nat=>[(1,.arr 3 true ((padL (leafL i) (grN x)).map (e1 eInt)))]) (fun i:Nat=>firstG x - i) 0 ?_ ?_ ?_
 · exact Nat.zero_le _
 · exact⟨[0,1],by simp⟩
 rintro I S μ hI hS hμ i hi
 by_cases hlt:i<firstG x
 · have w1:IntKind.i64.wrap ((i:Int)+1)=(i:Int)+1:=wrap_id (by omega) (by omega)
   have w2:IntKind.i64.wrap (2*(i:Int))=2*(i:Int):=wrap_id (by omega) (by omega)
   have hll:=leafL_len (n:=i)
   have hset:=padL_setD (p:=leafL i) (n:=grN x) (v:=2*(i:Int)) (by omega)
   rw[hll,←leafL_snoc] at hset
   have hpl:=padL_len (p:=leafL i) (n:=grN x) (by omega)
   have hat:(padL (leafL i) (grN x))[i]? = some (atI (padL (leafL i) (grN x)) i):=at_read (k:=i) (by omega)
   generalize padL (leafL i) (grN x)=p at *
   generalize atI p i=pv at *
   simp[enGr]
   refine call_step (firstAnd_con x ⟨n1,n2⟩ n3) ?_
   simp[show (i:Int)<1+x.1+x.2.1.length by omega,w1,w2,hset,hat]
   exact round_of hI hS hμ (i+1) (by omega) (by omega) ⟨[0,1],by simp⟩
 · obtain rfl:i=firstG x:=by omega
   simp[enGr]
   refine call_step (firstAnd_con x ⟨n1,n2⟩ n3) ?_
   simp[show ¬ ((firstG x:Nat):Int)<1+x.1+x.2.1.length by omega]
theorem mapLit_con (pl:List Int) (l:Int) (hp:pl.length≤1048576) (hl:0≤l∧l<2*(pl.length:Int)):ConC Try.prog 66 [ints pl,.d (.int .i64 l)] (.d (.int .i64 (plMapV pl l))):=by
 have w1:IntKind.i64.wrap (l.tdiv 2)=l / 2:=by rw[Int.tdiv_eq_ediv_of_nonneg hl.1,wrap_id (by omega) (by omega)]
 have hat:=at_read (lv:=pl) (k:=l / 2) (by omega)
 have w2:=and64_one l
 have hm:xor64 (atI pl (l / 2)) (l % 2)=plMapV pl l:=rfl
 generalize plMapV pl l=r at *
 generalize atI pl (l / 2)=v at *
 have hn:¬ l / 2<0:=by omega
 generalize l / 2=h at *
 refine con_of (by kernel_rfl) Try.func66 rfl rfl rfl ?_
 simp[w1,hat,w2,hm,hn]
set_option maxRecDepth 100000 in
theorem mapLits_con (pl ls:List Int) (hp:pl.length≤1048576) (hn:ls.length≤1048576) (hl:litsAt pl.length ls):ConC Try.prog 84 [ints pl,ints ls] (ints (ls.map (plMapV pl))):=by
 refine con_of (by kernel_rfl) Try.func84 rfl rfl rfl ?_
 simp
 refine aw_loopN [true,false,false,false,false,true,false,false,true,true,true,false,false,false,false,false,false,false,false,false,false,false] (fun i:Nat=>i≤ls.length) (fun i:Nat=>[(5,nilR i 0),(10,.d (.int .i64 i))]) (fun i:Nat=>nilS i ((ls.take i).map (plMapV pl))) (fun i:Nat=>ls.length - i) 0 ?_ ?_ ?_
 · simp
 · exact⟨[],by simp[nilR,nilS]⟩
 rintro I S μ hI hS hμ i hi
 by_cases hlt:i<ls.length
 · have hx1:ls[i]? = some (ls.getD i 0):=by rw[List.getD_eq_getElem?_getD,List.getElem?_eq_getElem hlt];rfl
   have hx2:∀ h:i<ls.length,ls[i]'h=ls.getD i 0:=fun h=>by simp[List.getD_eq_getElem?_getD,h]
   have hli:=hl _ (List.mem_of_getElem? hx1)
   have hnx:(ls.take (i+1)).map (plMapV pl)=(ls.take i).map (plMapV pl)++[plMapV pl (ls.getD i 0)]:=by rw[take_snoc' hx1,List.map_append];rfl
   have hll:((ls.take i).map (plMapV pl)).length=i:=by simp;omega
   have w2:IntKind.i64.wrap ((i:Int)+1)=(i:Int)+1:=wrap_id (by omega) (by omega)
   have k:=mapLit_con pl (ls.getD i 0) hp hli
   generalize plMapV pl (ls.getD i 0)=mv at *
   generalize ls.getD i 0=l at *
   generalize (ls.take i).map (plMapV pl)=ms at *
   by_cases hi0:i=0
   · subst hi0
     obtain rfl:ms=[]:=List.eq_nil_of_length_eq_zero hll
     simp[nilR,nilS,hlt,decide_eq_true hlt,hx1,hx2]
     refine call_step (k) ?_
     simp
     refine app_data vt_el_26 rfl (by simp) rfl (by simp) (by simp) (by first | (simp;done)|(simp;omega)) (by simp[flatP,flatD]) ?_
     simp[w2,show IntKind.i64.wrap 1=1 from rfl]
     exact round_of hI hS hμ 1 (by omega) (by omega) ⟨[1],by simp only[nilR,nilS];rw[hnx];simp[e1,eInt]⟩
   · simp[nilR,nilS,decide_eq_true hlt,hx1,hi0]
     refine call_step (k) ?_
     simp
     refine app_data vt_el_26 rfl (by simp) rfl (by simp) (by simp) (by first | (simp;done)|(simp;omega)) (by simp[flatP,flatD]) ?_
     simp[w2]
     exact round_of hI hS hμ (i+1) (by omega) (by omega) ⟨[2],by simp only[nilR,nilS];rw[hnx];simp[e1,eInt]⟩
 · obtain rfl:i=ls.length:=by omega
   rw[List.take_length]
   by_cases hi0:ls.length=0
   · obtain rfl:=List.eq_nil_of_length_eq_zero hi0
     simp[nilR,nilS]
   · simp[nilR,nilS,hlt,hi0,decide_eq_false hlt]
end Go.Proofs.Ytnjedabjbeipeaa
