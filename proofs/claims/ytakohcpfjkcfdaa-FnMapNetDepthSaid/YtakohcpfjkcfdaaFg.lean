/-
  The reference's search for one more path, by abstract walks.
  Conditions: those typed in each theorem.
-/
import Derived.Test.YtakohcpfjkcfdaaFa
import Derived.Test.YtakohcpfjkcfdaaNo
namespace Go.Proofs.Ytakohcpfjkcfdaa
open Go.RowKit Go.ChangeShapes Go.WideShapes
set_option linter.unusedVariables false
set_option linter.unusedSimpArgs false
attribute [local simp ↓] condG_true condG_false condB_true condB_false
attribute [local simp] AWp_skip AWp_region_t AWp_region_d AWp_region_f still_mk AWp_seq AWp_cond condV_bool condB AWp_block AWp_exit AWp_ret
attribute [local simp] AOps_nil AOp_move AOp_assign AOp_pick AOp_binOp AOp_unOp AOp_convert AOp_len AOp_max AOp_min AOp_indexAddr AOp_load
attribute [local simp] AOp_fieldAddr AOp_field AOp_extract AOp_nilCheck AOp_build AOp_alloc AOp_box AOp_call AOp_store AOp_append AOp_buildSlice nextB_some
attribute [local simp] nextB_none adoptO adoptC AOp_makeSlice AOp_slice AOp_makeFunc AOp_guard guardD_some guardG_bool guardG_undef nextO_some nextS_some
attribute [local simp] nextZ_some nextL_some nextM_some nextT_some sliceO sliceL sliceT partO partV boundV funcO pickO
attribute [local simp] convO lenO maxO minO idxO extO nilO buildO litO litC makeO chunks
attribute [local simp] fillV placeOf thenA inBlockA St.get St.put St.eval ofCell evalT abin_add abin_sub abin_mul
attribute [local simp] abin_quo abin_rem abin_and abin_or abin_xor abin_andNot abin_shl abin_shr abin_shlu abin_eql abin_eqp abin_neq
attribute [local simp] abin_lss abin_leq abin_gtr abin_geq abin_eqlb abin_neqb aun pickV lenV intOf? indexV takeD
attribute [local simp] takeV loadV fieldAddrV fieldV ofX presD presDs pres presAll cellsV V.cell storeV
attribute [local simp] freezeC putAt kill takeC plains plainV scalarV nat_neg keepT sets eSl e1
attribute [local simp] e2 e3 e4 eInt eBool abinS_d abinS_agg abinS nilEq abin_eqb AOp_makeMap AOp_lookup
attribute [local simp] AOp_mapUpdate lookG_some updG_some mapV kyOf vlOf lookV vlV buildA afterCall inst inst1
attribute [local simp] inst1s instD instDs RetA resVs resV gives give1 give1s Le isPin leSlots
attribute [local simp] leS leTmps leV le0 le0s ren ren0 renS ren0s frame enterT afterT_some
attribute [local simp] afterC_some lives Slot.live arrsOk viewV view0 renT rens renSs setAll List.range'_succ RetT
attribute [local simp] RetW joinV leT AOpsE_nil AOpsE_cons AOpsT_nil AOpsT_cons isCallT isFnO callOf callVC_fn condC_true
attribute [local simp] condC_false beginT_mk thenT_mk pickE pickT isT loose namesOf namesV names1 names0 stableN
attribute [local simp] sameAt Op.operands Call.operands
abbrev nZ (v:Nat):Int:=v
def natI (t:List Nat):List Int:=t.map nZ
theorem natI_len {t:List Nat}:(natI t).length=t.length:=by simp[natI]
theorem natI_snoc {t:List Nat} {v:Nat}:natI (t++[v])=natI t++[(v:Int)]:=by simp[natI,nZ]
abbrev fanG (x:GrD) (k:Nat):List Nat:=fanL (firstG x) (kidA x) (kidB x) k
theorem fanG_len {x:GrD} {k:Nat}:(fanG x k).length≤2:=by
 unfold fanG fanL;split
 · simp
 · split<;>split<;>simp
set_option maxRecDepth 100000 in
theorem l17Fan_con (x:GrD) (k:Nat) (hx:fitGr 1048576 x) (hok:netOkB x=true) (hk:k<grN x):ConC Try.prog 86 [igr x,.d (.int .i64 k)] (ints (natI (fanG x k))):=by
 obtain⟨⟨n1,n2,n3,n4,n5,n6⟩,-,-,-⟩:=netOk_of hok
 obtain⟨hF,hgl,hNi,hno⟩:=ok_sizes hok
 have hN:=grN_eq x
 have hf:fanG x k=if k<firstG x then [] else (if kidA x k=0 then [] else [kidA x k])++(if kidB x k=0 then [] else [kidB x k]):=rfl
 by_cases hlt:k<firstG x
 · rw[if_pos hlt] at hf
   rw[hf]
   refine con_of (by kernel_rfl) Try.func86 rfl rfl rfl ?_
   simp[enGr]
   refine call_step (sFirst_con x ⟨n1,n2⟩ n3) ?_
   simp[show (k:Int)<1+x.1+(x.2.1.length:Int) by omega,natI]
 · rw[if_neg hlt] at hf
   obtain⟨ha,a1,a2,a3,a4,a5,a6⟩:=and_at hok (v:=k) (by omega) hk
   have hL:(enAnd (andAt x k)).length=2:=rfl
   have hA:(1<(andAt x k).1)↔¬ kidA x k=0:=by omega
   have hB:(1<(andAt x k).2)↔¬ kidB x k=0:=by omega
   have w1:IntKind.i64.wrap ((k:Int) - (1+x.1+(x.2.1.length:Int)))=((k - firstG x:Nat):Int):=by rw[wrap_id (by omega) (by omega)];omega
   have q1:IntKind.i64.wrap ((andAt x k).1.tdiv 2)=(kidA x k:Int):=by rw[Int.tdiv_eq_ediv_of_nonneg a1,a3];exact wrap_id (by omega) (by omega)
   have q2:IntKind.i64.wrap ((andAt x k).2.tdiv 2)=(kidB x k:Int):=by rw[Int.tdiv_eq_ediv_of_nonneg a2,a4];exact wrap_id (by omega) (by omega)
   rw[hf]
   generalize kidA x k=ka at *
   generalize kidB x k=kb at *
   generalize andAt x k=an at *
   refine con_of (by kernel_rfl) Try.func86 rfl rfl rfl ?_
   simp[enGr]
   by_cases hka:ka=0
   · rw[if_pos hka]
     have dA:decide (1<an.1)=false:=decide_eq_false (by rw[hA];simp[hka])
     by_cases hkb:kb=0
     · rw[if_pos hkb]
       have dB:decide (1<an.2)=false:=decide_eq_false (by rw[hB];simp[hkb])
       refine call_step (sFirst_con x ⟨n1,n2⟩ n3) ?_
       simp[show ¬ (k:Int)<1+x.1+(x.2.1.length:Int) by omega]
       refine⟨by kernel_rfl,?_⟩
       refine call_step (sFirst_con x ⟨n1,n2⟩ n3) ?_
       simp[w1,ha,hL,enAnd,dA,dB,of_decide_eq_false dA,of_decide_eq_false dB,natI]
     · rw[if_neg hkb]
       have dB:decide (1<an.2)=true:=decide_eq_true (hB.2 hkb)
       refine call_step (sFirst_con x ⟨n1,n2⟩ n3) ?_
       simp[show ¬ (k:Int)<1+x.1+(x.2.1.length:Int) by omega]
       refine⟨by kernel_rfl,?_⟩
       refine call_step (sFirst_con x ⟨n1,n2⟩ n3) ?_
       simp[w1,ha,hL,enAnd,dA,dB,of_decide_eq_false dA,of_decide_eq_true dB]
       refine app_data vt_el_26 rfl (by simp) rfl (by simp) (by simp) (by first | (simp;done)|(simp;omega)) (by simp[flatP,flatD]) ?_
       simp[natI,q2]
   · rw[if_neg hka]
     have dA:decide (1<an.1)=true:=decide_eq_true (hA.2 hka)
     by_cases hkb:kb=0
     · rw[if_pos hkb]
       have dB:decide (1<an.2)=false:=decide_eq_false (by rw[hB];simp[hkb])
       refine call_step (sFirst_con x ⟨n1,n2⟩ n3) ?_
       simp[show ¬ (k:Int)<1+x.1+(x.2.1.length:Int) by omega]
       refine⟨by kernel_rfl,?_⟩
       refine call_step (sFirst_con x ⟨n1,n2⟩ n3) ?_
       simp[w1,ha,hL,enAnd,dA,dB,of_decide_eq_true dA,of_decide_eq_false dB]
       refine app_data vt_el_26 rfl (by simp) rfl (by simp) (by simp) (by first | (simp;done)|(simp;omega)) (by simp[flatP,flatD]) ?_
       simp[natI,q1,dA,dB,of_decide_eq_true dA,of_decide_eq_false dB]
     · rw[if_neg hkb]
       have dB:decide (1<an.2)=true:=decide_eq_true (hB.2 hkb)
       refine call_step (sFirst_con x ⟨n1,n2⟩ n3) ?_
       simp[show ¬ (k:Int)<1+x.1+(x.2.1.length:Int) by omega]
       refine⟨by kernel_rfl,?_⟩
       refine call_step (sFirst_con x ⟨n1,n2⟩ n3) ?_
       simp[w1,ha,hL,enAnd,dA,dB,of_decide_eq_true dA,of_decide_eq_true dB]
       refine app_data vt_el_26 rfl (by simp) rfl (by simp) (by simp) (by first | (simp;done)|(simp;omega)) (by simp[flatP,flatD]) ?_
       simp[q1,dA,dB,of_decide_eq_true dA,of_decide_eq_true dB]
       refine app_data vt_el_26 rfl (by simp) rfl (by simp) (by simp) (by first | (simp;done)|(simp;omega)) (by simp[flatP,flatD]) ?_
       simp[natI,q2]
def backL (M:Nat) (es:Es):List Int:=es.foldl (fun b p=>b.set p.1 p.2) (List.replicate M (-2))
theorem foldset_len:∀ (es:Es) (b:List Int),(es.foldl (fun b p=>b.set p.1 p.2) b).length=b.length
 | [],b=>rfl
 | p::es,b=>by rw[List.foldl_cons,foldset_len es,List.length_set]
theorem backL_len {M:Nat} {es:Es}:(backL M es).length=M:=by unfold backL;rw[foldset_len];simp
theorem backL_snoc {M:Nat} {es:Es} {t:Nat} {z:Int}:backL M (es++[(t,z)])=(backL M es).set t z:=by unfold backL;rw[List.foldl_append];rfl
structure BkOk (M:Nat) (es:Es):Prop where
 nd:(keyE es).Nodup
 lt:∀ t∈keyE es,t<M
 src:∀ p∈es,-1≤p.2∧p.2<M
theorem foldset_get {M:Nat}:∀ (es:Es) (b:List Int),(keyE es).Nodup→(∀ t∈keyE es,t<b.length)→∀ t,getZ (es.foldl (fun b p=>b.set p.1 p.2) b) t=(srcE es t).getD (getZ b t)
 | [],b,_,_,t=>rfl
 | p::es,b,nd,hl,t=>by
   have nd':p.1∉keyE es∧(keyE es).Nodup:=by simpa [keyE] using nd
   have hp:p.1<b.length:=hl p.1 (by simp[keyE])
   rw[List.foldl_cons,foldset_get (M:=M) es (b.set p.1 p.2) nd'.2 (fun u hu=>by rw[List.length_set];exact hl u (by simp[keyE] at hu ⊢;exact .inr hu)) t,getZ_set hp]
   by_cases ht:t=p.1
   · subst ht
     rw[srcE_none.2 nd'.1]
     simp[srcE]
   · rw[if_neg ht]
     have:srcE (p::es) t=srcE es t:=by
      unfold srcE
      rw[List.find?_cons]
      have:(p.1==t)=false:=by simp;omega
      rw[this]
     rw[this]
theorem backL_get {M:Nat} {es:Es} (h:BkOk M es) {t:Nat} (ht:t<M):getZ (backL M es) t=(srcE es t).getD (-2):=by
 unfold backL
 rw[foldset_get (M:=M) es _ h.nd (fun u hu=>by simpa using h.lt u hu)]
 congr 1
 unfold getZ
 rw[List.getElem?_replicate,if_pos ht]
 rfl
theorem backL_at {M:Nat} {es:Es} {t:Nat} (ht:t<M):(backL M es)[t]? = some (getZ (backL M es) t):=by
 unfold getZ
 rw[List.getElem?_eq_getElem (by rw[backL_len];exact ht)]
 rfl
theorem backL_new {M:Nat} {es:Es} (h:BkOk M es) {t:Nat} (ht:t<M):(getZ (backL M es) t=-2↔t∉keyE es):=by
 rw[backL_get h ht,←srcE_none]
 cases e:srcE es t with
 | none=>simp
 | some z =>
   have:-1≤z:=by
    unfold srcE at e
    cases e2:es.find? (fun p=>p.1==t) with
    | none=>rw[e2] at e;cases e
    | some p =>
      rw[e2] at e
      have:=(h.src p (List.mem_of_find?_eq_some e2)).1
      simp at e
      omega
   simp;omega
theorem BkOk.vis {M:Nat} {es:Es} (h:BkOk M es) {t:Nat} {z:Int} (ht:t<M) (hz:-1≤z∧z<M):BkOk M (visG z es t):=by
 unfold visG
 split
 · exact h
 · rename_i hm
   refine⟨?_,fun u hu=>?_,fun p hp=>?_⟩
   · simp only[keyE,List.map_append,List.map_cons,List.map_nil] at hm ⊢
     exact List.nodup_append.2 ⟨h.nd,by simp,fun a ha b hb=>by
      simp only[List.mem_singleton] at hb
      subst hb
      exact fun e=>hm (e▸ha)⟩
   · simp only[keyE,List.map_append,List.map_cons,List.map_nil,List.mem_append,List.mem_singleton] at hu
     rcases hu with hu|rfl
     · exact h.lt u hu
     · exact ht
   · rcases List.mem_append.1 hp with hp|hp
     · exact h.src p hp
     · rw[List.mem_singleton.1 hp];exact hz
theorem BkOk.all {M:Nat} {z:Int} (hz:-1≤z∧z<M):∀ {ts:List Nat} {es:Es},BkOk M es→(∀ t∈ts,t<M)→BkOk M (ts.foldl (visG z) es)
 | [],es,h,_=>h
 | t::ts,es,h,ht=>by
   rw[List.foldl_cons]
   exact BkOk.all hz (h.vis (ht t (by simp)) hz) fun u hu=>ht u (by simp[hu])
theorem BkOk.len {M:Nat} {es:Es} (h:BkOk M es):es.length≤M:=by
 have:(keyE es).length≤(List.range M).length:=h.nd.length_le_of_subset fun t ht=>List.mem_range.2 (h.lt t ht)
 simpa [keyE] using this
theorem vis_pre {z:Int}:∀ (ts:List Nat) {es:Es} {i:Nat} {p:Nat×Int},es[i]? = some p→(ts.foldl (visG z) es)[i]? = some p
 | [],es,i,p,h=>h
 | t::ts,es,i,p,h=>by
   refine vis_pre ts ?_
   unfold visG
   split
   · exact h
   · rw[List.getElem?_append_left (List.getElem?_eq_some_iff.1 h).1,h]
theorem keyE_snoc {es:Es} {t:Nat} {z:Int}:keyE (es++[(t,z)])=keyE es++[t]:=by simp[keyE]
theorem keyE_len {es:Es}:(keyE es).length=es.length:=by simp[keyE]
def endZ (o:Option Nat):Int:=match o with|none=>-1|some u=>u
abbrev seekG (x:GrD) (up us:List Bool) (ab:List Int):Es×Option Nat:=seekS (grN x) (firstG x) (kidA x) (kidB x) up us ab
theorem fanG_lt {x:GrD} (hok:netOkB x=true) {k:Nat} (hk:k<grN x) {c:Nat} (hc:c∈fanG x k):c<grN x:=by
 obtain⟨a,b,d⟩:=(fanL_mem _ _ _).1 hc
 have:=kids_lt hok k a hk
 rcases d with rfl|rfl<;>omega
theorem natI_at {ts:List Nat} {i:Nat} {t:Nat} (h:ts[i]? = some t):(natI ts)[i]? = some (t:Int):=by simp[natI,h,nZ]
theorem vis_len {z:Int}:∀ (ts:List Nat) (es:Es),es.length≤(ts.foldl (visG z) es).length
 | [],es=>Nat.le_refl _
 | t::ts,es=>by
   rw[List.foldl_cons]
   refine Nat.le_trans ?_ (vis_len ts _)
   unfold visG;split<;>simp
--@L17
def dblL (fs:List Nat) (j:Nat):List Int:=natI ((fs.take j).map (2*·))
theorem dblL_len {fs:List Nat} {j:Nat} (h:j≤fs.length):(dblL fs j).length=j:=by simp[dblL,natI];omega
theorem dblL_succ {fs:List Nat} {j c:Nat} (h:fs[j]? = some c):dblL fs (j+1)=dblL fs j++[((2*c:Nat):Int)]:=by
 unfold dblL
 rw[take_snoc' h,List.map_append]
 simp[natI,nZ]
theorem dblL_zero {fs:List Nat}:dblL fs 0=[]:=rfl
theorem dblL_all {fs:List Nat}:dblL fs fs.length=natI (fs.map (2*·)):=by unfold dblL;rw[List.take_length]
set_option maxRecDepth 100000 in
set_option maxHeartbeats 8000000 in
theorem l17Search_con (x:GrD) (up us:List Bool) (ab:List Int) (hx:fitGr 1048576 x) (hok:netOkB x=true) (hul:up.length=grN x) (hsl:us.length=grN x) (hal:ab.length=grN x) (hab:∀ k,-1≤getZ ab k∧getZ ab k<grN x) :
 ConC Try.prog 73 [igr x,bools up,bools us,ints ab] (.tup [ints (backL (2*grN x) (seekG x up us ab).1),.d (.int .i64 (endZ (seekG x up us ab).2))]):=by
 obtain⟨⟨n1,n2,n3,n4,n5,n6⟩,-,-,-⟩:=netOk_of hok
 obtain⟨hF,hgl,hNi,hno⟩:=ok_sizes hok
 have hN:=grN_eq x
 have hfp:0<firstG x:=by unfold firstG;omega
 obtain⟨M,hM⟩:∃ M,M=2*grN x:=⟨_,rfl⟩
 have hsk:seekG x up us ab=runG (succS (firstG x) (kidA x) (kidB x) us ab) (stopS (firstG x)) (M+1) 0 (initK (firstG x) (kidA x) (kidB x) up (grN x)):=by rw[hM];rfl
 rw[hsk,←hM]
 have w1:IntKind.i64.wrap (2*(grN x:Int))=(M:Int):=by rw[wrap_id (by omega) (by omega)];omega
 refine con_of (by kernel_rfl) Try.func73 rfl rfl rfl ?_
 simp[enGr]
 refine aw_loopU [false,true,true,true,true,false,false,false,false,false,true,true,true,false,false,false,false,false,false,false,false,false,false,false,false,false,false,false,false,false,false,false,false,false,false,false,false,false,false,false,false,false,false,false,false,false,false,false,false,false,false,false,false,false,false,false,false,false,false,false,false,false,false,false,false,false,false,false,false,false,false,false,false,false,false,false,false,false,false,false,false,false,false,false,false,false,false,false,false,false,false,false,false,false,false,false,false,false,false,false,false,false,false,false,false,false,false,false,false,false,false,false,false,false,false,false,false,false,false,false,false,false,false,false,false,false,false,false,false,false,false,false,false,false,false,false,false,false,false,false,false,false,false,false,false,false,false,false,false,false,false,false,false,false,false,false,false,false,false,false,false,false,false,false,false,false,false,false,false,false,false,false,false,false,false,false,false,false,false,false,false,false,false,false,false,false,false,false,false,false,false,false,false,false,false,false,false,false,false] (fun k:Nat=>k≤M) (fun k:Nat=>[(12,.d (.int .i64 k))]) (fun k:Nat=>[(1,.arr 3 true ((List.replicate k (-2:Int)).map (e1 eInt)))]) (fun k:Nat=>M - k) 0 ?_ ?_ ?_
 · exact Nat.zero_le _
 · exact⟨[0,1,2],by simp⟩
 rintro I S μ hI hS hμ k hk
 by_cases hlt:k<M
 · have w2:IntKind.i64.wrap ((k:Int)+1)=((k+1:Nat):Int):=by rw[wrap_id (by omega) (by omega)];omega
   have hrs:List.replicate k (-2:Int)++[-2]=List.replicate (k+1) (-2):=by rw[List.replicate_succ']
   have hrl:(List.replicate k (-2:Int)).length=k:=by simp
   generalize List.replicate k (-2:Int)=rs at *
   simp[enGr]
   refine call_step (sNodeCount_con x) ?_
   simp[hno,w1,show (k:Int)<(M:Int) by omega]
   refine app_data vt_el_26 rfl (by simp) rfl (by simp) (by simp) (by first | (simp;done)|(simp;omega)) (by simp[flatP,flatD]) ?_
   simp[w2]
   exact round_of hI hS hμ (k+1) (by omega) (by omega) ⟨[0,4,2],by simp[←hrs,e1,eInt]⟩
 obtain rfl:M=k:=by omega
 clear hI hS hμ
 simp[enGr]
 refine call_step (sNodeCount_con x) ?_
 simp[hno,w1]
 refine aw_loopU [false,true,true,true,true,false,false,false,false,false,true,true,false,true,false,false,false,false,false,false,false,false,false,false,false,false,false,false,false,false,false,false,false,false,false,false,false,false,false,false,false,false,false,false,false,false,false,false,false,false,false,false,false,false,false,false,false,false,false,false,false,false,false,false,false,false,false,false,false,false,false,false,false,false,false,false,false,false,false,false,false,false,false,false,false,false,false,false,false,false,false,false,false,false,false,false,false,false,false,false,false,false,false,false,false,false,false,false,false,false,false,false,false,false,false,false,false,false,false,false,false,false,false,false,false,false,false,false,false,false,false,false,false,false,false,false,false,false,false,false,false,false,false,false,false,false,false,false,false,false,false,false,false,false,false,false,false,false,false,false,false,false,false,false,false,false,false,false,false,false,false,false,false,false,false,false,false,false,false,false,false,false,false,false,false,false,false,false,false,false,false,false,false,false,false,false,false,false,false] (fun i:Nat×Es=>i.1≤grN x∧i.2=initK (firstG x) (kidA x) (kidB x) up i.1∧BkOk M i.2) (fun i:Nat×Es=>[(13,.d (.int .i64 i.1))]) (fun i:Nat×Es=>[(1,.arr 3 true ((backL M i.2).map (e1 eInt))),(2,.arr 3 true ((natI (keyE i.2)).map (e1 eInt)))]) (fun i:Nat×Es=>grN x - i.1) (0,[]) ?_ ?_ ?_
 · exact⟨Nat.zero_le _,rfl,⟨by simp[keyE],by simp[keyE],by simp⟩⟩
 · exact⟨[0,1,2],by simp[backL,keyE,natI]⟩
 rintro I S μ hI hS hμ ⟨k,es⟩ ⟨hk,hes,hbk⟩
 simp only at hk hes hbk
 by_cases hlt:k<grN x
 · have hfl:=fanG_len (x:=x) (k:=k)
   have hfn:(natI (fanG x k)).length=(fanG x k).length:=natI_len
   have hfk:=fun c hc=>fanG_lt hok hlt (c:=c) hc
   have w2:IntKind.i64.wrap ((k:Int)+1)=((k+1:Nat):Int):=by rw[wrap_id (by omega) (by omega)];omega
   have hat:=getB_at (s:=up) (v:=k) (by omega)
   have hnx:initK (firstG x) (kidA x) (kidB x) up (k+1)=if getB up k=true then (fanG x k).foldl (visU up) es else es:=by rw[hes];rfl
   have hfan:=l17Fan_con x k hx hok hlt
   have hdk:(k:Int)<(grN x:Int):=by omega
   generalize fanG x k=fs at *
   simp[enGr]
   refine call_step (sNodeCount_con x) ?_
   simp[hno,hdk]
   refine call_step (hfan) ?_
   simp[enGr]
   rcases Bool.eq_false_or_eq_true (getB up k) with hb|hb
   · rw[hb,if_pos rfl] at hnx
     refine aw_loopU [false,true,true,true,true,false,false,false,false,false,true,true,false,true,true,true,false,false,false,false,false,false,false,false,false,false,false,false,false,false,false,false,false,false,false,false,false,false,false,false,false,false,false,false,false,false,false,false,false,false,false,false,false,false,false,false,false,false,false,false,false,false,false,false,false,false,false,false,false,false,false,false,false,false,false,false,false,false,false,false,false,false,false,false,false,false,false,false,false,false,false,false,false,false,false,false,false,false,false,false,false,false,false,false,false,false,false,false,false,false,false,false,false,false,false,false,false,false,false,false,false,false,false,false,false,false,false,false,false,false,false,false,false,false,false,false,false,false,false,false,false,false,false,false,false,false,false,false,false,false,false,false,false,false,false,false,false,false,false,false,false,false,false,false,false,false,false,false,false,false,false,false,false,false,false,false,false,false,false,false,false,false,false,false,false,false,false,false,false,false,false,false,false,false,false,false,false,false,false] (fun j:Nat×Es=>j.1≤fs.length∧j.2=(fs.take j.1).foldl (visU up) es∧BkOk M j.2) (fun j:Nat×Es=>[(15,.d (.int .i64 j.1))]) (fun j:Nat×Es=>[(1,.arr 3 true ((backL M j.2).map (e1 eInt))),(2,.arr 3 true ((natI (keyE j.2)).map (e1 eInt)))]) (fun j:Nat×Es=>fs.length - j.1) (0,es) ?_ ?_ ?_
     · exact⟨Nat.zero_le _,rfl,hbk⟩
     · exact⟨[0,1,2,3],by simp⟩
     rintro I2 S2 μ2 hI2 hS2 hμ2 ⟨j,e⟩ ⟨hj,he,hbe⟩
     simp only at hj he hbe
     by_cases hjl:j<fs.length
     · have hc0:fs[j]? = some fs[j]:=List.getElem?_eq_getElem hjl
       have hcN:=hfk _ (List.getElem_mem hjl)
       have hstep:(fs.take (j+1)).foldl (visU up) es=visU up e fs[j]:=by rw[take_snoc' hc0,List.foldl_append,←he];rfl
       generalize fs[j]=c at *
       have hx1:=natI_at hc0
       obtain⟨t,ht⟩:∃ t,t=2*c:=⟨_,rfl⟩
       have wc:IntKind.i64.wrap (2*(c:Int))=(t:Int):=by rw[wrap_id (by omega) (by omega)];omega
       have wj:IntKind.i64.wrap ((j:Int)+1)=((j+1:Nat):Int):=by rw[wrap_id (by omega) (by omega)];omega
       have hatc:=getB_at (s:=up) (v:=c) (by omega)
       have hatb:=backL_at (M:=M) (es:=e) (t:=t) (by omega)
       have hbn:=backL_new hbe (t:=t) (by omega)
       have hle:=hbe.len
       have hkl:=keyE_len (es:=e)
       have hnl:(natI (keyE e)).length=e.length:=by rw[natI_len,hkl]
       have hvis:visU up e c=if getB up c=true then e else visG (-1) e t:=by unfold visU;rw[ht]
       rcases Bool.eq_false_or_eq_true (getB up c) with hc|hc
       · rw[hc,if_pos rfl] at hvis
         simp[hx1,hat,hb,hatc,hc,decide_eq_true hjl,hfn,wj]
         exact round_of hI2 hS2 hμ2 (j+1,e) ⟨by omega,by rw[hstep,hvis],hbe⟩ (by simp;omega) ⟨[0,1,2,3],by simp⟩
       · rw[hc,if_neg (by simp)] at hvis
         by_cases hm:t∈keyE e
         · have hne:(getZ (backL M e) t==-2)=false:=by have:¬ getZ (backL M e) t=-2:=fun h=>hbn.1 h hm
                                                       simpa using this
           have hv2:visG (-1) e t=e:=by unfold visG;rw[if_pos hm]
           simp[hx1,hat,hb,hatc,hc,hatb,hne,wc,decide_eq_true hjl,hfn,wj]
           exact round_of hI2 hS2 hμ2 (j+1,e) ⟨by omega,by rw[hstep,hvis,hv2],hbe⟩ (by simp;omega) ⟨[0,1,2,3],by simp⟩
         · have hne:(getZ (backL M e) t==-2)=true:=by simpa using hbn.2 hm
           have hv2:visG (-1) e t=e++[(t,-1)]:=by unfold visG;rw[if_neg hm]
           have hb2:=hbe.vis (t:=t) (z:=-1) (by omega) (by omega)
           rw[hv2] at hb2
           have hset:((backL M e).map (e1 eInt)).set t [.int .i64 (-1)]=(backL M (e++[(t,-1)])).map (e1 eInt):=by rw[backL_snoc];exact setI
           have hsn:natI (keyE (e++[(t,-1)]))=natI (keyE e)++[(t:Int)]:=by rw[keyE_snoc,natI_snoc]
           have hbl:=backL_len (M:=M) (es:=e)
           obtain⟨b2,hb3⟩:∃ b2,backL M (e++[(t,-1)])=b2:=⟨_,rfl⟩
           rw[hb3] at hset
           generalize backL M e=b1 at *
           simp[hx1,hat,hb,hatc,hc,hatb,hne,wc,hset,decide_eq_true hjl,hfn]
           refine app_data vt_el_26 rfl (by simp) rfl (by simp) (by simp) (by first | (simp;done)|(simp;omega)) (by simp[flatP,flatD]) ?_
           simp[wj]
           exact round_of hI2 hS2 hμ2 (j+1,e++[(t,-1)]) ⟨by omega,by rw[hstep,hvis,hv2],hb2⟩ (by simp;omega) ⟨[0,1,5,3],by simp[hsn,hb3,e1,eInt]⟩
     · obtain rfl:j=fs.length:=by omega
       rw[List.take_length] at he
       simp[hfn,hat,hb,decide_eq_false hjl,hjl,w2]
       exact round_of hI hS hμ (k+1,e) ⟨by omega,by rw[hnx,he],hbe⟩ (by simp;omega) ⟨[0,1,2],by simp⟩
   · rw[hb,if_neg (by simp)] at hnx
     refine aw_loopU [false,true,true,true,true,false,false,false,false,false,true,true,false,true,true,true,false,false,false,false,false,false,false,false,false,false,false,false,false,false,false,false,false,false,false,false,false,false,false,false,false,false,false,false,false,false,false,false,false,false,false,false,false,false,false,false,false,false,false,false,false,false,false,false,false,false,false,false,false,false,false,false,false,false,false,false,false,false,false,false,false,false,false,false,false,false,false,false,false,false,false,false,false,false,false,false,false,false,false,false,false,false,false,false,false,false,false,false,false,false,false,false,false,false,false,false,false,false,false,false,false,false,false,false,false,false,false,false,false,false,false,false,false,false,false,false,false,false,false,false,false,false,false,false,false,false,false,false,false,false,false,false,false,false,false,false,false,false,false,false,false,false,false,false,false,false,false,false,false,false,false,false,false,false,false,false,false,false,false,false,false,false,false,false,false,false,false,false,false,false,false,false,false,false,false,false,false,false,false] (fun j:Unit=>True) (fun j:Unit=>[(15,.d (.int .i64 0))]) (fun j:Unit=>[]) (fun j:Unit=>0) () ?_ ?_ ?_
     · exact trivial
     · exact⟨[0,1,2,3],by simp⟩
     rintro I2 S2 μ2 hI2 hS2 hμ2 j -
     by_cases hl0:0<fs.length
     · simp[hfn,decide_eq_true hl0,hl0,hat,hb,w2]
       exact round_of hI hS hμ (k+1,es) ⟨by omega,by rw[hnx],hbk⟩ (by simp;omega) ⟨[0,1,2],by simp⟩
     · simp[hfn,decide_eq_false hl0,hl0,hat,hb,w2]
       exact round_of hI hS hμ (k+1,es) ⟨by omega,by rw[hnx],hbk⟩ (by simp;omega) ⟨[0,1,2],by simp⟩
 obtain rfl:k=grN x:=by omega
 clear hI hS hμ
 rw[←hes]
 have hin:∀ u,u<M→∀ t∈succS (firstG x) (kidA x) (kidB x) us ab u,t<M:=fun u hu t ht=>by
  unfold succS at ht
  split at ht
  · split at ht
    · split at ht
      · rename_i h0
        simp only[List.mem_singleton] at ht
        have:=(hab (u / 2)).2
        omega
      · simp at ht
    · simp only[List.mem_singleton] at ht
      omega
  · simp only[List.mem_append,List.mem_map] at ht
    rcases ht with ⟨c,hc,rfl⟩|ht
    · have:=fanG_lt hok (k:=u / 2) (by omega) hc;omega
    · split at ht
      · simp only[List.mem_singleton] at ht
        omega
      · simp at ht
 generalize hR:runG (succS (firstG x) (kidA x) (kidB x) us ab) (stopS (firstG x)) (M+1) 0 es=R at *
 simp[enGr]
 refine call_step (sNodeCount_con x) ?_
 simp[hno]
 refine aw_loopU [false,false,true,true,true,false,false,false,false,false,true,true,false,false,false,false,true,false,false,false,false,false,false,false,false,false,false,false,false,false,false,false,false,false,false,false,false,false,false,false,false,false,false,false,false,false,false,false,false,false,false,false,false,false,false,false,false,false,false,false,false,false,false,false,false,false,false,false,false,false,false,false,false,false,false,false,false,false,false,false,false,false,false,false,false,false,false,false,false,false,false,false,false,false,false,false,false,false,false,false,false,false,false,false,false,false,false,false,false,false,false,false,false,false,false,false,false,false,false,false,false,false,false,false,false,false,false,false,false,false,false,false,false,false,false,false,false,false,false,false,false,false,false,false,false,false,false,false,false,false,false,false,false,false,false,false,false,false,false,false,false,false,false,false,false,false,false,false,false,false,false,false,false,false,false,false,false,false,false,false,false,false,false,false,false,false,false,false,false,false,false,false,false,false,false,false,false,false,false] (fun i:Nat×Nat×Es=>i.2.1≤i.2.2.length∧i.1+i.2.1=M+1∧BkOk M i.2.2∧runG (succS (firstG x) (kidA x) (kidB x) us ab) (stopS (firstG x)) i.1 i.2.1 i.2.2=R) (fun i:Nat×Nat×Es=>[(16,.d (.int .i64 i.2.1))]) (fun i:Nat×Nat×Es=>[(1,.arr 3 true ((backL M i.2.2).map (e1 eInt))),(2,.arr 3 true ((natI (keyE i.2.2)).map (e1 eInt)))]) (fun i:Nat×Nat×Es=>i.1) (M+1,0,es) ?_ ?_ ?_
 · exact⟨Nat.zero_le _,rfl,hbk,hR⟩
 · exact⟨[0,1,2],by simp⟩
 clear hbk hes hR hk
 rintro I S μ hI hS hμ ⟨f,q,es⟩ ⟨hq,hfq,hbk,hR⟩
 simp only at hq hfq hbk hR
 have hle:=hbk.len
 have hkl:=keyE_len (es:=es)
 have hnl:(natI (keyE es)).length=es.length:=by rw[natI_len,hkl]
 obtain⟨f,rfl⟩:∃ f',f=f'+1:=⟨f - 1,by omega⟩
 unfold runG at hR
 by_cases hql:q<es.length
 case neg =>
  rw[List.getElem?_eq_none (by omega)] at hR
  simp only at hR
  rw[←hR]
  simp[hnl,decide_eq_false hql,hql,endZ]
 obtain⟨⟨u,z⟩,hp⟩:∃ p,es[q]? = some p:=⟨_,List.getElem?_eq_getElem hql⟩
 rw[hp] at hR
 simp only at hR
 have huM:u<M:=hbk.lt u (keyE_mem hp)
 have hkq:(keyE es)[q]? = some u:=by simp[keyE,hp]
 have hxq:=natI_at hkq
 obtain⟨k,hk⟩:∃ k,k=u / 2:=⟨_,rfl⟩
 have hkN:k<grN x:=by omega
 have wu:IntKind.i64.wrap ((u:Int).tdiv 2)=(k:Int):=by rw[Int.tdiv_eq_ediv_of_nonneg (by omega),wrap_id (by omega) (by omega)];omega
 have wu2:IntKind.i64.wrap ((u:Int) / 2)=(k:Int):=by rw[wrap_id (by omega) (by omega)];omega
 have wm:(u:Int).tmod 2=((u % 2:Nat):Int):=by rw[Int.tmod_eq_emod_of_nonneg (by omega)];omega
 have wq:IntKind.i64.wrap ((q:Int)+1)=((q+1:Nat):Int):=by rw[wrap_id (by omega) (by omega)];omega
 have hdq:decide (q<es.length)=true:=decide_eq_true hql
 have hats:=getB_at (s:=us) (v:=k) (by omega)
 have hata:ab[k]? = some (getZ ab k):=by unfold getZ;rw[List.getElem?_eq_getElem (by omega)];rfl
 obtain⟨hab1,hab2⟩:=hab k
 have hnxu:succS (firstG x) (kidA x) (kidB x) us ab u=if u % 2=0 then (if getB us k=true then (if 0≤getZ ab k then [2*(getZ ab k).toNat+1] else []) else [2*k+1])
  else (fanG x k).map (2*·)++(if getB us k=true then [2*k] else []):=by unfold succS;rw[hk]
 have hst:stopS (firstG x) u=(decide (u % 2=1)&&decide (k<firstG x)):=by unfold stopS;rw[hk]
 have hins:=hin u huM
 generalize succS (firstG x) (kidA x) (kidB x) us ab u=nx at *
 by_cases hev:u % 2=0
 · have hm0:((u:Int).tmod 2==0)=true:=by rw[wm,hev];rfl
   have hs0:stopS (firstG x) u=false:=by rw[hst,decide_eq_false (by omega)];rfl
   rw[if_neg (by rw[hs0];simp)] at hR
   rw[if_pos hev] at hnxu
   rcases Bool.eq_false_or_eq_true (getB us k) with hb|hb
   · rw[hb,if_pos rfl] at hnxu
     by_cases hz:0≤getZ ab k
     · rw[if_pos hz] at hnxu
       obtain⟨t0,ht0⟩:∃ t0,t0=2*(getZ ab k).toNat:=⟨_,rfl⟩
       obtain⟨t1,ht1⟩:∃ t1,t1=2*(getZ ab k).toNat+1:=⟨_,rfl⟩
       rw[←ht1] at hnxu
       have wt0:IntKind.i64.wrap (2*getZ ab k)=(t0:Int):=by rw[wrap_id (by omega) (by omega)];omega
       have wt1:IntKind.i64.wrap ((t0:Int)+1)=(t1:Int):=by rw[wrap_id (by omega) (by omega)];omega
       have hdz:decide (0≤getZ ab k)=true:=decide_eq_true hz
       generalize getZ ab k=zv at *
       simp[hnl,hdq,hxq,wu,wu2,hm0,hats,hb,hata,hz,hdz,eq_true hz]
       refine app_data vt_el_26 rfl (by simp) rfl (by simp) (by simp) (by first | (simp;done)|(simp;omega)) (by simp[flatP,flatD]) ?_
       simp[wt0,wt1]
       have hnq:[[D.int .i64 (t1:Int)]]=(natI nx).map (e1 eInt):=by rw[hnxu];rfl
       rw[hnq]
       have hnxl:(natI nx).length=nx.length:=natI_len
       have hn1:nx.length≤4:=by rw[hnxu];simp
       clear hnxu hnq
       refine aw_loopU [false,false,true,true,true,false,false,false,false,false,true,true,false,false,false,false,true,false,true,false,false,true,false,false,false,false,false,false,false,false,false,false,false,false,false,false,false,false,false,false,false,false,false,false,false,false,false,false,false,false,false,false,false,false,false,false,false,false,false,false,false,false,false,false,false,false,false,false,false,false,false,false,false,false,false,false,false,false,false,false,false,false,false,false,false,false,false,false,false,false,false,false,false,false,false,false,false,false,false,false,false,false,false,false,false,false,false,false,false,false,false,false,false,false,false,false,false,false,false,false,false,false,false,false,false,false,false,false,false,false,false,false,false,false,false,false,false,false,false,false,false,false,false,false,false,false,false,false,false,false,false,false,false,false,false,false,false,false,false,false,false,false,false,false,false,false,false,false,false,false,false,false,false,false,false,false,false,false,false,false,false,false,false,false,false,false,false,false,false,false,false,false,false,false,false,false,false,false,false] (fun j:Nat×Es=>j.1≤nx.length∧j.2=(nx.take j.1).foldl (visG (u:Int)) es∧BkOk M j.2) (fun j:Nat×Es=>[(21,.d (.int .i64 j.1))]) (fun j:Nat×Es=>[(1,.arr 3 true ((backL M j.2).map (e1 eInt))),(2,.arr 3 true ((natI (keyE j.2)).map (e1 eInt)))]) (fun j:Nat×Es=>nx.length - j.1) (0,es) ?_ ?_ ?_
       · exact⟨Nat.zero_le _,rfl,hbk⟩
       · exact⟨[0,1,2,3,4,5],by simp⟩
       rintro I5 S5 μ5 hI5 hS5 hμ5 ⟨j,e⟩ ⟨hj,he,hbe⟩
       simp only at hj he hbe
       by_cases hjl:j<nx.length
       · have hc0:nx[j]? = some nx[j]:=List.getElem?_eq_getElem hjl
         have htM:=hins _ (List.getElem_mem hjl)
         have hstep:(nx.take (j+1)).foldl (visG (u:Int)) es=visG (u:Int) e nx[j]:=by rw[take_snoc' hc0,List.foldl_append,←he];rfl
         have hpe:e[q]? = some (u,z):=by rw[he];exact vis_pre _ hp
         have hkqe:(keyE e)[q]? = some u:=by simp[keyE,hpe]
         have hxqe:=natI_at hkqe
         generalize nx[j]=t at *
         have hx1:=natI_at hc0
         have wj:IntKind.i64.wrap ((j:Int)+1)=((j+1:Nat):Int):=by rw[wrap_id (by omega) (by omega)];omega
         have hatb:=backL_at (M:=M) (es:=e) (t:=t) (by omega)
         have hbn:=backL_new hbe (t:=t) (by omega)
         have hlee:=hbe.len
         have hnle:(natI (keyE e)).length=e.length:=by rw[natI_len,keyE_len]
         by_cases hm:t∈keyE e
         · have hne:(getZ (backL M e) t==-2)=false:=by have:¬ getZ (backL M e) t=-2:=fun h=>hbn.1 h hm
                                                       simpa using this
           have hv2:visG (u:Int) e t=e:=by unfold visG;rw[if_pos hm]
           simp[hx1,hatb,hne,hnxl,decide_eq_true hjl,wj]
           exact round_of hI5 hS5 hμ5 (j+1,e) ⟨by omega,by rw[hstep,hv2],hbe⟩ (by simp;omega) ⟨[0,1,2,3,4,5],by simp⟩
         · have hne:(getZ (backL M e) t==-2)=true:=by simpa using hbn.2 hm
           have hv2:visG (u:Int) e t=e++[(t,(u:Int))]:=by unfold visG;rw[if_neg hm]
           have hb2:=hbe.vis (t:=t) (z:=(u:Int)) (by omega) (by omega)
           rw[hv2] at hb2
           have hset:((backL M e).map (e1 eInt)).set t [.int .i64 (u:Int)]=(backL M (e++[(t,(u:Int))])).map (e1 eInt):=by rw[backL_snoc];exact setI
           have hsn:natI (keyE (e++[(t,(u:Int))]))=natI (keyE e)++[(t:Int)]:=by rw[keyE_snoc,natI_snoc]
           obtain⟨b2,hb3⟩:∃ b2,backL M (e++[(t,(u:Int))])=b2:=⟨_,rfl⟩
           rw[hb3] at hset
           generalize backL M e=b1 at *
           simp[hx1,hatb,hne,hnxl,decide_eq_true hjl]
           refine⟨by kernel_rfl,?_⟩
           simp[hx1,hxqe,hatb,hset]
           refine app_data vt_el_26 rfl (by simp) rfl (by simp) (by simp) (by first | (simp;done)|(simp;omega)) (by simp[flatP,flatD]) ?_
           simp[wj]
           exact round_of hI5 hS5 hμ5 (j+1,e++[(t,(u:Int))]) ⟨by omega,by rw[hstep,hv2],hb2⟩ (by simp;omega) ⟨[0,1,7,3,4,5],by simp[hsn,hb3,e1,eInt]⟩
       · obtain rfl:j=nx.length:=by omega
         rw[List.take_length] at he
         rw[←he] at hR
         simp[hnxl,decide_eq_false hjl,hjl,wq]
         have hlen9:es.length≤e.length:=by rw[he];exact vis_len _ _
         exact round_of hI hS hμ (f,q+1,e) ⟨by simp only;omega,by simp only;omega,hbe,hR⟩ (by simp) ⟨[0,1,2],by simp⟩
     · rw[if_neg hz] at hnxu
       have hdz:decide (0≤getZ ab k)=false:=decide_eq_false hz
       rw[hnxu] at hR
       generalize getZ ab k=zv at *
       simp[hnl,hdq,hxq,wu,wu2,hm0,hats,hb,hata,hz,hdz]
       refine aw_loopU [false,false,true,true,true,false,false,false,false,false,true,true,false,false,false,false,true,false,true,false,false,true,false,false,false,false,false,false,false,false,false,false,false,false,false,false,false,false,false,false,false,false,false,false,false,false,false,false,false,false,false,false,false,false,false,false,false,false,false,false,false,false,false,false,false,false,false,false,false,false,false,false,false,false,false,false,false,false,false,false,false,false,false,false,false,false,false,false,false,false,false,false,false,false,false,false,false,false,false,false,false,false,false,false,false,false,false,false,false,false,false,false,false,false,false,false,false,false,false,false,false,false,false,false,false,false,false,false,false,false,false,false,false,false,false,false,false,false,false,false,false,false,false,false,false,false,false,false,false,false,false,false,false,false,false,false,false,false,false,false,false,false,false,false,false,false,false,false,false,false,false,false,false,false,false,false,false,false,false,false,false,false,false,false,false,false,false,false,false,false,false,false,false,false,false,false,false,false,false] (fun j:Unit=>True) (fun j:Unit=>[(21,.d (.int .i64 0))]) (fun j:Unit=>[]) (fun j:Unit=>0) () ?_ ?_ ?_
       · exact trivial
       · exact⟨[0,1,2,3],by simp⟩
       rintro I5 S5 μ5 hI5 hS5 hμ5 j -
       simp[wq]
       exact round_of hI hS hμ (f,q+1,es) ⟨by simp only;omega,by simp only;omega,hbk,hR⟩ (by simp) ⟨[0,1,2],by simp⟩
   · rw[hb,if_neg (by simp)] at hnxu
     obtain⟨t0,ht0⟩:∃ t0,t0=2*k:=⟨_,rfl⟩
     obtain⟨t1,ht1⟩:∃ t1,t1=2*k+1:=⟨_,rfl⟩
     rw[←ht1] at hnxu
     have wt0:IntKind.i64.wrap (2*(k:Int))=(t0:Int):=by rw[wrap_id (by omega) (by omega)];omega
     have wt1:IntKind.i64.wrap ((t0:Int)+1)=(t1:Int):=by rw[wrap_id (by omega) (by omega)];omega
     simp[hnl,hdq,hxq,wu,wu2,hm0,hats,hb]
     refine app_data vt_el_26 rfl (by simp) rfl (by simp) (by simp) (by first | (simp;done)|(simp;omega)) (by simp[flatP,flatD]) ?_
     simp[wt0,wt1]
     have hnq:[[D.int .i64 (t1:Int)]]=(natI nx).map (e1 eInt):=by rw[hnxu];rfl
     rw[hnq]
     have hnxl:(natI nx).length=nx.length:=natI_len
     have hn1:nx.length≤4:=by rw[hnxu];simp
     clear hnxu hnq
     refine aw_loopU [false,false,true,true,true,false,false,false,false,false,true,true,false,false,false,false,true,false,true,false,false,true,false,false,false,false,false,false,false,false,false,false,false,false,false,false,false,false,false,false,false,false,false,false,false,false,false,false,false,false,false,false,false,false,false,false,false,false,false,false,false,false,false,false,false,false,false,false,false,false,false,false,false,false,false,false,false,false,false,false,false,false,false,false,false,false,false,false,false,false,false,false,false,false,false,false,false,false,false,false,false,false,false,false,false,false,false,false,false,false,false,false,false,false,false,false,false,false,false,false,false,false,false,false,false,false,false,false,false,false,false,false,false,false,false,false,false,false,false,false,false,false,false,false,false,false,false,false,false,false,false,false,false,false,false,false,false,false,false,false,false,false,false,false,false,false,false,false,false,false,false,false,false,false,false,false,false,false,false,false,false,false,false,false,false,false,false,false,false,false,false,false,false,false,false,false,false,false,false] (fun j:Nat×Es=>j.1≤nx.length∧j.2=(nx.take j.1).foldl (visG (u:Int)) es∧BkOk M j.2) (fun j:Nat×Es=>[(21,.d (.int .i64 j.1))]) (fun j:Nat×Es=>[(1,.arr 3 true ((backL M j.2).map (e1 eInt))),(2,.arr 3 true ((natI (keyE j.2)).map (e1 eInt)))]) (fun j:Nat×Es=>nx.length - j.1) (0,es) ?_ ?_ ?_
     · exact⟨Nat.zero_le _,rfl,hbk⟩
     · exact⟨[0,1,2,3,4,5],by simp⟩
     rintro I5 S5 μ5 hI5 hS5 hμ5 ⟨j,e⟩ ⟨hj,he,hbe⟩
     simp only at hj he hbe
     by_cases hjl:j<nx.length
     · have hc0:nx[j]? = some nx[j]:=List.getElem?_eq_getElem hjl
       have htM:=hins _ (List.getElem_mem hjl)
       have hstep:(nx.take (j+1)).foldl (visG (u:Int)) es=visG (u:Int) e nx[j]:=by rw[take_snoc' hc0,List.foldl_append,←he];rfl
       have hpe:e[q]? = some (u,z):=by rw[he];exact vis_pre _ hp
       have hkqe:(keyE e)[q]? = some u:=by simp[keyE,hpe]
       have hxqe:=natI_at hkqe
       generalize nx[j]=t at *
       have hx1:=natI_at hc0
       have wj:IntKind.i64.wrap ((j:Int)+1)=((j+1:Nat):Int):=by rw[wrap_id (by omega) (by omega)];omega
       have hatb:=backL_at (M:=M) (es:=e) (t:=t) (by omega)
       have hbn:=backL_new hbe (t:=t) (by omega)
       have hlee:=hbe.len
       have hnle:(natI (keyE e)).length=e.length:=by rw[natI_len,keyE_len]
       by_cases hm:t∈keyE e
       · have hne:(getZ (backL M e) t==-2)=false:=by have:¬ getZ (backL M e) t=-2:=fun h=>hbn.1 h hm
                                                     simpa using this
         have hv2:visG (u:Int) e t=e:=by unfold visG;rw[if_pos hm]
         simp[hx1,hatb,hne,hnxl,decide_eq_true hjl,wj]
         exact round_of hI5 hS5 hμ5 (j+1,e) ⟨by omega,by rw[hstep,hv2],hbe⟩ (by simp;omega) ⟨[0,1,2,3,4,5],by simp⟩
       · have hne:(getZ (backL M e) t==-2)=true:=by simpa using hbn.2 hm
         have hv2:visG (u:Int) e t=e++[(t,(u:Int))]:=by unfold visG;rw[if_neg hm]
         have hb2:=hbe.vis (t:=t) (z:=(u:Int)) (by omega) (by omega)
         rw[hv2] at hb2
         have hset:((backL M e).map (e1 eInt)).set t [.int .i64 (u:Int)]=(backL M (e++[(t,(u:Int))])).map (e1 eInt):=by rw[backL_snoc];exact setI
         have hsn:natI (keyE (e++[(t,(u:Int))]))=natI (keyE e)++[(t:Int)]:=by rw[keyE_snoc,natI_snoc]
         obtain⟨b2,hb3⟩:∃ b2,backL M (e++[(t,(u:Int))])=b2:=⟨_,rfl⟩
         rw[hb3] at hset
         generalize backL M e=b1 at *
         simp[hx1,hatb,hne,hnxl,decide_eq_true hjl]
         refine⟨by kernel_rfl,?_⟩
         simp[hx1,hxqe,hatb,hset]
         refine app_data vt_el_26 rfl (by simp) rfl (by simp) (by simp) (by first | (simp;done)|(simp;omega)) (by simp[flatP,flatD]) ?_
         simp[wj]
         exact round_of hI5 hS5 hμ5 (j+1,e++[(t,(u:Int))]) ⟨by omega,by rw[hstep,hv2],hb2⟩ (by simp;omega) ⟨[0,1,7,3,4,5],by simp[hsn,hb3,e1,eInt]⟩
     · obtain rfl:j=nx.length:=by omega
       rw[List.take_length] at he
       rw[←he] at hR
       simp[hnxl,decide_eq_false hjl,hjl,wq]
       have hlen9:es.length≤e.length:=by rw[he];exact vis_len _ _
       exact round_of hI hS hμ (f,q+1,e) ⟨by simp only;omega,by simp only;omega,hbe,hR⟩ (by simp) ⟨[0,1,2],by simp⟩
 · have hm0:((u:Int).tmod 2==0)=false:=by rw[wm,show u % 2=1 by omega];rfl
   rw[if_neg hev] at hnxu
   by_cases hkF:k<firstG x
   · have hs1:stopS (firstG x) u=true:=by rw[hst,decide_eq_true (by omega),decide_eq_true hkF];rfl
     rw[if_pos hs1] at hR
     rw[←hR]
     simp[enGr,hnl,hdq,hxq,wu,wu2,hm0]
     refine call_step (sFirst_con x ⟨n1,n2⟩ n3) ?_
     simp[show (k:Int)<1+x.1+(x.2.1.length:Int) by omega]
     refine⟨by kernel_rfl,?_⟩
     simp[hxq,endZ]
   · have hs0:stopS (firstG x) u=false:=by rw[hst,decide_eq_false hkF,Bool.and_false]
     rw[if_neg (by rw[hs0];simp)] at hR
     have hfl:=fanG_len (x:=x) (k:=k)
     have hfn:(natI (fanG x k)).length=(fanG x k).length:=natI_len
     have hfk:=fun c hc=>fanG_lt hok hkN (c:=c) hc
     have hfan:=l17Fan_con x k hx hok hkN
     generalize fanG x k=fs at *
     simp[enGr,hnl,hdq,hxq,wu,wu2,hm0]
     refine call_step (sFirst_con x ⟨n1,n2⟩ n3) ?_
     simp[show ¬ (k:Int)<1+x.1+(x.2.1.length:Int) by omega]
     refine call_step (hfan) ?_
     simp[enGr]
     refine aw_loopU [false,false,true,true,true,false,false,false,false,false,true,true,false,false,false,false,true,true,true,true,true,false,false,false,false,false,false,false,false,false,false,false,false,false,false,false,false,false,false,false,false,false,false,false,false,false,false,false,false,false,false,false,false,false,false,false,false,false,false,false,false,false,false,false,false,false,false,false,false,false,false,false,false,false,false,false,false,false,false,false,false,false,false,false,false,false,false,false,false,false,false,false,false,false,false,false,false,false,false,false,false,false,false,false,false,false,false,false,false,false,false,false,false,false,false,false,false,false,false,false,false,false,false,false,false,false,false,false,false,false,false,false,false,false,false,false,false,false,false,false,false,false,false,false,false,false,false,false,false,false,false,false,false,false,false,false,false,false,false,false,false,false,false,false,false,false,false,false,false,false,false,false,false,false,false,false,false,false,false,false,false,false,false,false,false,false,false,false,false,false,false,false,false,false,false,false,false,false,false] (fun j:Nat=>j≤fs.length) (fun j:Nat=>[(20,.d (.int .i64 j))]) (fun j:Nat=>[(3,.arr 3 true ((dblL fs j).map (e1 eInt)))]) (fun j:Nat=>fs.length - j) 0 ?_ ?_ ?_
     · exact Nat.zero_le _
     · exact⟨[0,1,2,3,4],by simp[dblL_zero]⟩
     rintro I4 S4 μ4 hI4 hS4 hμ4 j hj
     by_cases hjl:j<fs.length
     · have hc0:fs[j]? = some fs[j]:=List.getElem?_eq_getElem hjl
       have hcN:=hfk _ (List.getElem_mem hjl)
       have hts:=take_snoc' hc0
       generalize fs[j]=c at *
       have hx1:=natI_at hc0
       obtain⟨t,ht⟩:∃ t,t=2*c:=⟨_,rfl⟩
       have wc:IntKind.i64.wrap (2*(c:Int))=(t:Int):=by rw[wrap_id (by omega) (by omega)];omega
       have wj:IntKind.i64.wrap ((j:Int)+1)=((j+1:Nat):Int):=by rw[wrap_id (by omega) (by omega)];omega
       have hsn:dblL fs (j+1)=dblL fs j++[(t:Int)]:=by rw[dblL_succ hc0,ht]
       have hl4:=dblL_len (fs:=fs) (j:=j) hj
       simp[hx1,hfn,decide_eq_true hjl]
       refine app_data vt_el_26 rfl (by simp) rfl (by simp) (by simp) (by first | (simp;done)|(simp;omega)) (by simp[flatP,flatD]) ?_
       simp[wc,wj]
       exact round_of hI4 hS4 hμ4 (j+1) (by omega) (by omega) ⟨[0,1,2,6,4],by simp[hsn,e1,eInt]⟩
     · obtain rfl:j=fs.length:=by omega
       rw[dblL_all]
       rcases Bool.eq_false_or_eq_true (getB us k) with hb|hb
       · rw[hb,if_pos rfl] at hnxu
         obtain⟨t0,ht0⟩:∃ t0,t0=2*k:=⟨_,rfl⟩
         rw[←ht0] at hnxu
         have wt0:IntKind.i64.wrap (2*(k:Int))=(t0:Int):=by rw[wrap_id (by omega) (by omega)];omega
         have hnq:(natI (fs.map (2*·))).map (e1 eInt)++[[D.int .i64 (t0:Int)]]=(natI nx).map (e1 eInt):=by rw[hnxu];simp[natI,nZ,e1,eInt]
         have hml:(natI (fs.map (2*·))).length=fs.length:=by simp[natI]
         have hnxl:(natI nx).length=nx.length:=natI_len
         have hn1:nx.length≤4:=by rw[hnxu];simp;omega
         generalize natI (fs.map (2*·))=ms at *
         simp[hfn,decide_eq_false hjl,hjl,hats,hb]
         refine app_data vt_el_26 rfl (by simp) rfl (by simp) (by simp) (by first | (simp;done)|(simp;omega)) (by simp[flatP,flatD]) ?_
         simp[wt0]
         rw[hnq]
         clear hnxu hnq
         refine aw_loopU [false,false,true,true,true,false,false,false,false,false,true,true,false,false,false,false,true,false,true,false,false,true,false,false,false,false,false,false,false,false,false,false,false,false,false,false,false,false,false,false,false,false,false,false,false,false,false,false,false,false,false,false,false,false,false,false,false,false,false,false,false,false,false,false,false,false,false,false,false,false,false,false,false,false,false,false,false,false,false,false,false,false,false,false,false,false,false,false,false,false,false,false,false,false,false,false,false,false,false,false,false,false,false,false,false,false,false,false,false,false,false,false,false,false,false,false,false,false,false,false,false,false,false,false,false,false,false,false,false,false,false,false,false,false,false,false,false,false,false,false,false,false,false,false,false,false,false,false,false,false,false,false,false,false,false,false,false,false,false,false,false,false,false,false,false,false,false,false,false,false,false,false,false,false,false,false,false,false,false,false,false,false,false,false,false,false,false,false,false,false,false,false,false,false,false,false,false,false,false] (fun j:Nat×Es=>j.1≤nx.length∧j.2=(nx.take j.1).foldl (visG (u:Int)) es∧BkOk M j.2) (fun j:Nat×Es=>[(21,.d (.int .i64 j.1))]) (fun j:Nat×Es=>[(1,.arr 3 true ((backL M j.2).map (e1 eInt))),(2,.arr 3 true ((natI (keyE j.2)).map (e1 eInt)))]) (fun j:Nat×Es=>nx.length - j.1) (0,es) ?_ ?_ ?_
         · exact⟨Nat.zero_le _,rfl,hbk⟩
         · exact⟨[0,1,2,3,4,5,6],by simp⟩
         rintro I5 S5 μ5 hI5 hS5 hμ5 ⟨j,e⟩ ⟨hj,he,hbe⟩
         simp only at hj he hbe
         by_cases hjl:j<nx.length
         · have hc0:nx[j]? = some nx[j]:=List.getElem?_eq_getElem hjl
           have htM:=hins _ (List.getElem_mem hjl)
           have hstep:(nx.take (j+1)).foldl (visG (u:Int)) es=visG (u:Int) e nx[j]:=by rw[take_snoc' hc0,List.foldl_append,←he];rfl
           have hpe:e[q]? = some (u,z):=by rw[he];exact vis_pre _ hp
           have hkqe:(keyE e)[q]? = some u:=by simp[keyE,hpe]
           have hxqe:=natI_at hkqe
           generalize nx[j]=t at *
           have hx1:=natI_at hc0
           have wj:IntKind.i64.wrap ((j:Int)+1)=((j+1:Nat):Int):=by rw[wrap_id (by omega) (by omega)];omega
           have hatb:=backL_at (M:=M) (es:=e) (t:=t) (by omega)
           have hbn:=backL_new hbe (t:=t) (by omega)
           have hlee:=hbe.len
           have hnle:(natI (keyE e)).length=e.length:=by rw[natI_len,keyE_len]
           by_cases hm:t∈keyE e
           · have hne:(getZ (backL M e) t==-2)=false:=by have:¬ getZ (backL M e) t=-2:=fun h=>hbn.1 h hm
                                                         simpa using this
             have hv2:visG (u:Int) e t=e:=by unfold visG;rw[if_pos hm]
             simp[hx1,hatb,hne,hnxl,decide_eq_true hjl,wj]
             exact round_of hI5 hS5 hμ5 (j+1,e) ⟨by omega,by rw[hstep,hv2],hbe⟩ (by simp;omega) ⟨[0,1,2,3,4,5,6],by simp⟩
           · have hne:(getZ (backL M e) t==-2)=true:=by simpa using hbn.2 hm
             have hv2:visG (u:Int) e t=e++[(t,(u:Int))]:=by unfold visG;rw[if_neg hm]
             have hb2:=hbe.vis (t:=t) (z:=(u:Int)) (by omega) (by omega)
             rw[hv2] at hb2
             have hset:((backL M e).map (e1 eInt)).set t [.int .i64 (u:Int)]=(backL M (e++[(t,(u:Int))])).map (e1 eInt):=by rw[backL_snoc];exact setI
             have hsn:natI (keyE (e++[(t,(u:Int))]))=natI (keyE e)++[(t:Int)]:=by rw[keyE_snoc,natI_snoc]
             obtain⟨b2,hb3⟩:∃ b2,backL M (e++[(t,(u:Int))])=b2:=⟨_,rfl⟩
             rw[hb3] at hset
             generalize backL M e=b1 at *
             simp[hx1,hatb,hne,hnxl,decide_eq_true hjl]
             refine⟨by kernel_rfl,?_⟩
             simp[hx1,hxqe,hatb,hset]
             refine app_data vt_el_26 rfl (by simp) rfl (by simp) (by simp) (by first | (simp;done)|(simp;omega)) (by simp[flatP,flatD]) ?_
             simp[wj]
             exact round_of hI5 hS5 hμ5 (j+1,e++[(t,(u:Int))]) ⟨by omega,by rw[hstep,hv2],hb2⟩ (by simp;omega) ⟨[0,1,8,3,4,5,6],by simp[hsn,hb3,e1,eInt]⟩
         · obtain rfl:j=nx.length:=by omega
           rw[List.take_length] at he
           rw[←he] at hR
           simp[hnxl,decide_eq_false hjl,hjl,wq]
           have hlen9:es.length≤e.length:=by rw[he];exact vis_len _ _
           exact round_of hI hS hμ (f,q+1,e) ⟨by simp only;omega,by simp only;omega,hbe,hR⟩ (by simp) ⟨[0,1,2],by simp⟩
       · rw[hb,if_neg (by simp),List.append_nil] at hnxu
         rw[←hnxu]
         have hnxl:(natI nx).length=nx.length:=natI_len
         have hn1:nx.length≤4:=by rw[hnxu];simp;omega
         simp[hfn,decide_eq_false hjl,hjl,hats,hb]
         clear hnxu
         refine aw_loopU [false,false,true,true,true,false,false,false,false,false,true,true,false,false,false,false,true,false,true,false,false,true,false,false,false,false,false,false,false,false,false,false,false,false,false,false,false,false,false,false,false,false,false,false,false,false,false,false,false,false,false,false,false,false,false,false,false,false,false,false,false,false,false,false,false,false,false,false,false,false,false,false,false,false,false,false,false,false,false,false,false,false,false,false,false,false,false,false,false,false,false,false,false,false,false,false,false,false,false,false,false,false,false,false,false,false,false,false,false,false,false,false,false,false,false,false,false,false,false,false,false,false,false,false,false,false,false,false,false,false,false,false,false,false,false,false,false,false,false,false,false,false,false,false,false,false,false,false,false,false,false,false,false,false,false,false,false,false,false,false,false,false,false,false,false,false,false,false,false,false,false,false,false,false,false,false,false,false,false,false,false,false,false,false,false,false,false,false,false,false,false,false,false,false,false,false,false,false,false] (fun j:Nat×Es=>j.1≤nx.length∧j.2=(nx.take j.1).foldl (visG (u:Int)) es∧BkOk M j.2) (fun j:Nat×Es=>[(21,.d (.int .i64 j.1))]) (fun j:Nat×Es=>[(1,.arr 3 true ((backL M j.2).map (e1 eInt))),(2,.arr 3 true ((natI (keyE j.2)).map (e1 eInt)))]) (fun j:Nat×Es=>nx.length - j.1) (0,es) ?_ ?_ ?_
         · exact⟨Nat.zero_le _,rfl,hbk⟩
         · exact⟨[0,1,2,3,4],by simp⟩
         rintro I5 S5 μ5 hI5 hS5 hμ5 ⟨j,e⟩ ⟨hj,he,hbe⟩
         simp only at hj he hbe
         by_cases hjl:j<nx.length
         · have hc0:nx[j]? = some nx[j]:=List.getElem?_eq_getElem hjl
           have htM:=hins _ (List.getElem_mem hjl)
           have hstep:(nx.take (j+1)).foldl (visG (u:Int)) es=visG (u:Int) e nx[j]:=by rw[take_snoc' hc0,List.foldl_append,←he];rfl
           have hpe:e[q]? = some (u,z):=by rw[he];exact vis_pre _ hp
           have hkqe:(keyE e)[q]? = some u:=by simp[keyE,hpe]
           have hxqe:=natI_at hkqe
           generalize nx[j]=t at *
           have hx1:=natI_at hc0
           have wj:IntKind.i64.wrap ((j:Int)+1)=((j+1:Nat):Int):=by rw[wrap_id (by omega) (by omega)];omega
           have hatb:=backL_at (M:=M) (es:=e) (t:=t) (by omega)
           have hbn:=backL_new hbe (t:=t) (by omega)
           have hlee:=hbe.len
           have hnle:(natI (keyE e)).length=e.length:=by rw[natI_len,keyE_len]
           by_cases hm:t∈keyE e
           · have hne:(getZ (backL M e) t==-2)=false:=by have:¬ getZ (backL M e) t=-2:=fun h=>hbn.1 h hm
                                                         simpa using this
             have hv2:visG (u:Int) e t=e:=by unfold visG;rw[if_pos hm]
             simp[hx1,hatb,hne,hnxl,decide_eq_true hjl,wj]
             exact round_of hI5 hS5 hμ5 (j+1,e) ⟨by omega,by rw[hstep,hv2],hbe⟩ (by simp;omega) ⟨[0,1,2,3,4],by simp⟩
           · have hne:(getZ (backL M e) t==-2)=true:=by simpa using hbn.2 hm
             have hv2:visG (u:Int) e t=e++[(t,(u:Int))]:=by unfold visG;rw[if_neg hm]
             have hb2:=hbe.vis (t:=t) (z:=(u:Int)) (by omega) (by omega)
             rw[hv2] at hb2
             have hset:((backL M e).map (e1 eInt)).set t [.int .i64 (u:Int)]=(backL M (e++[(t,(u:Int))])).map (e1 eInt):=by rw[backL_snoc];exact setI
             have hsn:natI (keyE (e++[(t,(u:Int))]))=natI (keyE e)++[(t:Int)]:=by rw[keyE_snoc,natI_snoc]
             obtain⟨b2,hb3⟩:∃ b2,backL M (e++[(t,(u:Int))])=b2:=⟨_,rfl⟩
             rw[hb3] at hset
             generalize backL M e=b1 at *
             simp[hx1,hatb,hne,hnxl,decide_eq_true hjl]
             refine⟨by kernel_rfl,?_⟩
             simp[hx1,hxqe,hatb,hset]
             refine app_data vt_el_26 rfl (by simp) rfl (by simp) (by simp) (by first | (simp;done)|(simp;omega)) (by simp[flatP,flatD]) ?_
             simp[wj]
             exact round_of hI5 hS5 hμ5 (j+1,e++[(t,(u:Int))]) ⟨by omega,by rw[hstep,hv2],hb2⟩ (by simp;omega) ⟨[0,1,6,3,4],by simp[hsn,hb3,e1,eInt]⟩
         · obtain rfl:j=nx.length:=by omega
           rw[List.take_length] at he
           rw[←he] at hR
           simp[hnxl,decide_eq_false hjl,hjl,wq]
           have hlen9:es.length≤e.length:=by rw[he];exact vis_len _ _
           exact round_of hI hS hμ (f,q+1,e) ⟨by simp only;omega,by simp only;omega,hbe,hR⟩ (by simp) ⟨[0,1,2],by simp⟩
end Go.Proofs.Ytakohcpfjkcfdaa
