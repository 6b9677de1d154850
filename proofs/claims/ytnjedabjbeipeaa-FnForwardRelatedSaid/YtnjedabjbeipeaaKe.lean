/-
  Pruning, by the program. Plain lemmas and an abstract walk.
  Conditions: those typed in each theorem.
-/
import Derived.Test.YtnjedabjbeipeaaKc
import Derived.Test.YtnjedabjbeipeaaRb
import Derived.Test.YtnjedabjbeipeaaRk
import Derived.Test.YtnjedabjbeipeaaUb
namespace Go.Proofs.Ytnjedabjbeipeaa
open Go.RowKit Go.ChangeShapes Go.WideShapes
set_option linter.unusedVariables false
set_option linter.unusedSimpArgs false
attribute [local simp ↓] condG_true condG_false condB_true condB_false
attribute [local simp] AWp_skip AWp_region_t AWp_region_d AWp_region_f still_mk AWp_seq AWp_cond condV_bool condB AWp_block AWp_exit AWp_ret
attribute [local simp] AOps_nil AOp_move AOp_assign AOp_pick AOp_binOp AOp_unOp AOp_convert AOp_len AOp_max AOp_min AOp_indexAddr AOp_load
attribute [local simp] AOp_fieldAddr AOp_field AOp_extract AOp_nilCheck AOp_build AOp_alloc AOp_box AOp_call AOp_store AOp_append AOp_buildSlice nextB_some
attribute [local simp] nextB_none adoptO adoptC AOp_makeSlice AOp_slice AOp_makeFunc AOp_guard guardD_some guardG_bool guardG_undef nextO_some nextS_some
attribute [local simp] nextZ_some nextL_some nextM_some nextT_some sliceO sliceL sliceT partO partV boundV funcO pickO
attribute [local simp] convO lenO maxO minO idxO extO nilO buildO litO litC makeO chunks
attribute [local simp] fillV placeOf thenA inBlockA St.get St.put St.eval ofCell evalT abin_add abin_sub abin_mul
attribute [local simp] abin_quo abin_rem abin_and abin_or abin_xor abin_andNot abin_shl abin_shr abin_shlu abin_eql abin_eqp abin_neq
attribute [local simp] abin_lss abin_leq abin_gtr abin_geq abin_eqlb abin_neqb aun pickV lenV intOf? indexV takeD
attribute [local simp] takeV loadV fieldAddrV fieldV ofX presD presDs pres presAll cellsV V.cell storeV
attribute [local simp] freezeC putAt kill takeC plains plainV scalarV nat_neg keepT sets eSl e1
attribute [local simp] e2 e3 e4 eInt eBool abinS_d abinS_agg abinS nilEq abin_eqb AOp_makeMap AOp_lookup
attribute [local simp] AOp_mapUpdate lookG_some updG_some mapV kyOf vlOf lookV vlV buildA afterCall inst inst1
attribute [local simp] inst1s instD instDs RetA resVs resV gives give1 give1s Le isPin leSlots
attribute [local simp] leS leTmps leV le0 le0s ren ren0 renS ren0s frame enterT afterT_some
attribute [local simp] afterC_some lives Slot.live arrsOk viewV view0 renT rens renSs setAll List.range'_succ RetT
attribute [local simp] RetW joinV leT AOpsE_nil AOpsE_cons AOpsT_nil AOpsT_cons isCallT isFnO callOf callVC_fn condC_true
attribute [local simp] condC_false beginT_mk beginX_mk AOpsX_zero thenT_mk pickE pickT isT loose namesOf namesV names1
attribute [local simp] names0 stableN sameAt Op.operands Call.operands
def plJ (x:GrD) (m:List Bool) (j:Nat):List Int:=(List.range (grN x)).map fun v=>if v<j∧kpB x m v=true then 2*(ctP x m v:Int) else 0
def sqE (x:GrD) (m:List Bool):Nat→List SeqD
 | 0=>[]
 | i+1=>if getB m (firstQ x+i)=true then sqE x m i++[nilSeq (seqAt x i)] else sqE x m i
section
variable {x:GrD} {m:List Bool}
theorem sqE_succ {i:Nat}:sqE x m (i+1)=if getB m (firstQ x+i)=true then sqE x m i++[nilSeq (seqAt x i)] else sqE x m i:=rfl
theorem sqE_len {pl:List Int}:∀ i,(sqE x m i).length=(sqK x m pl i).length
 | 0=>rfl
 | i+1=>by
   have ih:=sqE_len (pl:=pl) i
   rw[sqE_succ,sqK_succ]
   split
   · rw[List.length_append,List.length_append,ih];rfl
   · exact ih
theorem plJ_len {j:Nat}:(plJ x m j).length=grN x:=by simp[plJ]
theorem plJ_zero:plJ x m 0=List.replicate (grN x) 0:=by
 unfold plJ
 apply List.ext_getElem?
 intro q
 rw[List.getElem?_map,List.getElem?_replicate]
 by_cases h:q<grN x
 · rw[List.getElem?_range h,if_pos h];rfl
 · rw[List.getElem?_eq_none (by simpa using h),if_neg h];rfl
theorem plJ_all:plJ x m (grN x)=plP x m:=by
 unfold plJ plP
 refine List.map_congr_left fun v hv=>?_
 have:=List.mem_range.1 hv
 by_cases h:kpB x m v=true
 · rw[if_pos ⟨this,h⟩,if_pos h]
 · rw[if_neg (fun e=>h e.2),if_neg h]
theorem plJ_set {j:Nat} (hj:j<grN x) (hk:kpB x m j=true):(plJ x m j).set j (2*(ctP x m j:Int))=plJ x m (j+1):=by
 unfold plJ
 apply List.ext_getElem?
 intro q
 by_cases hq:q<grN x
 · by_cases e:j=q
   · subst e
     rw[List.getElem?_set_self (by simpa using hq),List.getElem?_map,List.getElem?_range hq,Option.map_some,if_pos ⟨by omega,hk⟩]
   · rw[List.getElem?_set_ne e,List.getElem?_map,List.getElem?_map,List.getElem?_range hq,Option.map_some,Option.map_some]
     by_cases h:q<j∧kpB x m q=true
     · rw[if_pos h,if_pos ⟨by omega,h.2⟩]
     · rw[if_neg h,if_neg (fun h2=>h ⟨by omega,h2.2⟩)]
 · rw[List.getElem?_eq_none (by simp;omega),List.getElem?_eq_none (by simp;omega)]
theorem plJ_skip {j:Nat} (hk:kpB x m j=false):plJ x m (j+1)=plJ x m j:=by
 unfold plJ
 refine List.map_congr_left fun v hv=>?_
 by_cases h:v<j∧kpB x m v=true
 · rw[if_pos h,if_pos ⟨by omega,h.2⟩]
 · rw[if_neg h,if_neg (fun h2=>?_)]
   by_cases e:v=j
   · subst e;rw[hk] at h2;exact absurd h2.2 (by simp)
   · exact h ⟨by omega,h2.2⟩
theorem plJ_lit {j:Nat} {l:Int} (h0:0≤l) (hv:litN l<j):plMapV (plJ x m j) l=plMapV (plP x m) l:=by
 unfold plMapV
 congr 1
 unfold atI plJ plP
 have e:(l / 2).toNat=litN l:=by unfold litN;omega
 rw[e,List.getElem?_map,List.getElem?_map]
 by_cases hN:litN l<grN x
 · rw[List.getElem?_range hN,Option.map_some,Option.map_some]
   by_cases h:kpB x m (litN l)=true
   · rw[if_pos ⟨hv,h⟩,if_pos h]
   · rw[if_neg (fun e=>h e.2),if_neg h]
 · rw[List.getElem?_eq_none (by simp;omega)]
   rfl
end
def kV (b:Bool) (t:TypeId) (k:Nat):V:=if b=true then .ref k else .nil t
def kS (b:Bool) (t:TypeId) (es:List (List D)):List Slot:=if b=true then [.arr t true es] else []
theorem kV_no {t:TypeId} {k:Nat}:kV false t k=.nil t:=rfl
theorem kV_yes {t:TypeId} {k:Nat}:kV true t k=.ref k:=rfl
theorem kS_no {t:TypeId} {es:List (List D)}:kS false t es=[]:=rfl
theorem kS_yes {t:TypeId} {es:List (List D)}:kS true t es=[.arr t true es]:=rfl
theorem kept_at2 {x:GrD} {m:List Bool} {pl:List Int}:∀ (n j:Nat) (z:Int),(keptK m (firstQ x) n)[j]? = some z→∃ i:Nat,z=i∧i<n∧getB m (firstQ x+i)=true∧(sqE x m n)[j]? = some (nilSeq (seqAt x i))∧(sqK x m pl n)[j]? = some (mapSeq pl (seqAt x i))
 | 0,j,z,h=>by simp[keptK] at h
 | n+1,j,z,h=>by
   have h':(if getB m (firstQ x+n)=true then keptK m (firstQ x) n++[(n:Int)] else keptK m (firstQ x) n)[j]? = some z:=h
   rw[sqE_succ,sqK_succ]
   have l1:=keptK_sq (x:=x) (m:=m) (pl:=pl) n
   have l2:=sqE_len (x:=x) (m:=m) (pl:=pl) n
   split at h'
   · rename_i hb
     rw[if_pos hb,if_pos hb]
     rcases Nat.lt_or_ge j (keptK m (firstQ x) n).length with hj|hj
     · rw[List.getElem?_append_left hj] at h'
       obtain⟨i,h1,h2,h3,h4,h5⟩:=kept_at2 n j z h'
       exact⟨i,h1,by omega,h3,by rw[List.getElem?_append_left (by omega)];exact h4,by rw[List.getElem?_append_left (by omega)];exact h5⟩
     · rw[List.getElem?_append_right hj] at h'
       have hl:=(List.getElem?_eq_some_iff.1 h').1
       simp at hl
       have e:j=(keptK m (firstQ x) n).length:=by omega
       rw[e,Nat.sub_self] at h'
       refine⟨n,(Option.some.inj h').symm,by omega,hb,?_,?_⟩
       · rw[e,l1,←l2,List.getElem?_append_right (Nat.le_refl _),Nat.sub_self];rfl
       · rw[e,l1,List.getElem?_append_right (Nat.le_refl _),Nat.sub_self];rfl
   · rename_i hb
     rw[if_neg hb,if_neg hb]
     obtain⟨i,h1,h2,h3,h4,h5⟩:=kept_at2 n j z h'
     exact⟨i,h1,by omega,h3,h4,h5⟩
def mixQ (Q es:List SeqD) (j:Nat):List SeqD:=Q.take j++es.drop j
theorem mixQ_zero {Q es:List SeqD}:mixQ Q es 0=es:=by simp[mixQ]
theorem mixQ_all {Q es:List SeqD} {j:Nat} (h1:Q.length=j) (h2:es.length=j):mixQ Q es j=Q:=by
 unfold mixQ;rw[List.take_of_length_le (by omega),List.drop_of_length_le (by omega),List.append_nil]
theorem mixQ_len {Q es:List SeqD} {j:Nat} (h:Q.length=es.length):(mixQ Q es j).length=es.length:=by simp[mixQ];omega
theorem mixQ_at {Q es:List SeqD} {j:Nat} {s:SeqD} (h:es[j]? = some s) (hl:Q.length=es.length):(mixQ Q es j)[j]? = some s:=by
 have hj:=(List.getElem?_eq_some_iff.1 h).1
 unfold mixQ
 rw[List.getElem?_append_right (by simp;omega),List.length_take,List.getElem?_drop,show j+(j - min j Q.length)=j by omega,h]
theorem mixQ_set {Q es:List SeqD} {j:Nat} {s:SeqD} (h:Q[j]? = some s) (hl:Q.length=es.length):(mixQ Q es j).set j s=mixQ Q es (j+1):=by
 have hj:=(List.getElem?_eq_some_iff.1 h).1
 unfold mixQ
 rw[List.set_append_right _ _ (by simp;omega),take_snoc' h,List.append_assoc]
 congr 1
 rw[List.length_take,show j - min j Q.length=0 by omega,List.drop_eq_getElem_cons (by omega)]
 rfl
theorem nodeCnt_an (I:Int) (s:List SeqD) (a:List AndD) (r:Int) (h1:0≤I∧I≤20) (h2:s.length≤12) (h3:a.length≤300) (hr:1+I+(s.length:Int)+(a.length:Int)=r) :
 ConC Try.prog 63 [igr (I,s,a,[])] (.d (.int .i64 r)):=by
 rw[←hr];exact iNodeCnt_con (I,s,a,[]) h1 h2 h3
set_option maxRecDepth 100000 in
set_option maxHeartbeats 8000000 in
theorem iPrune_conT (x:GrD) (hx:fitGr 1048576 x) (hok:netOkB x=true):ConT Try.prog 32 [vgr x] [] (vgr (pruneG x)) []:=by
 obtain⟨⟨n1,n2,n3,n4,n5,n6⟩,o1,o2,o3⟩:=netOk_of hok
 obtain⟨hF,hgl,hNi,hno⟩:=ok_sizes hok
 have hN:=grN_eq x
 have hQ:(firstQ x:Int)=1+x.1:=by unfold firstQ;omega
 have hFQ:firstG x=firstQ x+x.2.1.length:=rfl
 have kO:=observable_con x hx hok
 have hml:(obsB x).length=grN x:=obsB_len
 have hPG:pruneG x=(x.1,sqK x (obsB x) (plP x (obsB x)) x.2.1.length,anP x (obsB x) (plP x (obsB x)) x.2.2.1.length,x.2.2.2.map (plMapV (plP x (obsB x)))):=rfl
 have hseq:=fun i h1 h2 l hl=>seq_kids hok (i:=i) h1 h2 (l:=l) hl
 have hand:=fun i h1 h2 l hl=>and_kids hok (i:=i) h1 h2 l hl
 have hout:=fun l hl=>out_kids hok (l:=l) hl
 have hcs:=fun i hi=>ctP_seq (x:=x) (m:=obsB x) (pl:=plP x (obsB x)) i hi
 have hca:=fun i hi=>ctP_and (x:=x) (m:=obsB x) i hi
 have hcl:=fun v hv=>ctP_low (x:=x) (m:=obsB x) v hv
 rw[hPG]
 have hkl:∀ v,v<firstQ x→kpB x (obsB x) v=true:=fun v hv=>by unfold kpB;rw[decide_eq_true hv];rfl
 generalize obsB x=m at *
 have hQd:sqK x m (plP x m) x.2.1.length=sqK x m (plP x m) x.2.1.length:=rfl
 refine conT_ofD (by kernel_rfl) Try.func32 rfl rfl rfl (by simp[laters,Later]) (by simp[lives,Slot.live]) ?_
 simp[enGr]
 refine call_step (kO) ?_
 simp[enGr]
 refine call_step (iNodeCnt_con x ⟨n1,n2⟩ n3 n4) ?_
 simp[hNi]
 refine⟨by omega,?_⟩
 have hrep:List.replicate (grN x) [D.int .i64 0]=(plJ x m 0).map (e1 eInt):=by rw[plJ_zero];simp[e1,eInt]
 rw[hrep]
 refine aw_loopU [false,true,true,true,true,true,true,false,false,false,false,false,false,false,false,false,false,false,false,false,false,false,false,false,false,false,false,false,false,false,false,false,false,false,false,false,false,false,false,false,false,false,false,false,false,false,false,false,false,false,false,false,false,false,false,false,false,false,false,false,false,false,false,false,false,false,false,false,false,false,false,false,false,false,false,false,false,false,false,false,false,false,false,false,false,false,false,false,false,false,false,false,false,false,false,false,false,false,false,false,false,false,false,false,false,false,false,false,false,false,false,false,false,false,false,false,false,false,false,false,false,false,false,false,false,false,false,false,false,false,false,false,false,false,false,false,false,false,false,false,false,false,false] (fun k:Nat=>k≤firstQ x) (fun k:Nat=>[(6,.d (.int .i64 k))]) (fun k:Nat=>[(4,.arr 3 true ((plJ x m k).map (e1 eInt)))]) (fun k:Nat=>firstQ x - k) 0 ?_ ?_ ?_
 · exact Nat.zero_le _
 · exact⟨[0,1,2,3,4],by simp⟩
 rintro I S μ hI hS hμ k hk
 by_cases hlt:k<firstQ x
 · have hc:=hcl k (by omega)
   have hps:=plJ_set (x:=x) (m:=m) (j:=k) (by omega) (hkl k hlt)
   rw[hc] at hps
   have hpl:=plJ_len (x:=x) (m:=m) (j:=k)
   obtain⟨p2,hp2⟩:∃ p2,plJ x m (k+1)=p2:=⟨_,rfl⟩
   rw[hp2] at hps
   generalize plJ x m k=p1 at *
   have hse:(p1.map (e1 eInt)).set k [D.int .i64 (2*(k:Int))]=p2.map (e1 eInt):=by rw[←hps,List.map_set];rfl
   obtain⟨z0,hz0⟩:∃ z0,p1[k]? = some z0:=⟨_,List.getElem?_eq_getElem (by omega)⟩
   have w1:IntKind.i64.wrap (2*(k:Int))=2*(k:Int):=wrap_id (by omega) (by omega)
   have w2:IntKind.i64.wrap ((k:Int)+1)=(k:Int)+1:=wrap_id (by omega) (by omega)
   simp[show (k:Int)≤x.1 by omega,w1,hz0,hse,w2]
   exact round_of hI hS hμ (k+1) (by omega) (by omega) ⟨[0,1,2,3,4],by simp[hp2]⟩
 obtain rfl:k=firstQ x:=by omega
 clear hI hS hμ
 simp[show ¬ ((firstQ x:Nat):Int)≤x.1 by omega]
 refine aw_loopN [false,true,true,true,true,true,false,true,false,false,false,false,false,false,false,false,false,false,false,false,false,false,false,false,false,false,false,false,false,false,false,false,false,false,false,true,true,true,false,false,false,false,false,false,false,false,false,false,false,false,false,false,false,false,false,false,false,false,false,false,false,false,false,false,false,false,false,false,false,false,false,false,false,false,false,false,false,false,false,false,false,false,false,false,false,false,false,false,false,false,false,false,false,false,false,false,false,false,false,false,false,false,false,false,false,false,false,false,false,false,false,false,false,false,false,false,false,false,false,false,false,false,false,false,false,false,false,false,false,false,false,false,false,false,false,false,false,false,false,false,false,false,false] (fun i:Nat=>i≤x.2.1.length) (fun i:Nat=>[(7,kV (!(sqE x m i).isEmpty) 3 6),(37,.d (.int .i64 i))]) (fun i:Nat=>fun _=>[Slot.var 28 [.d (.int .i64 x.1),.d (eSl 31 enSeq x.2.1),.d (eSl 60 enAnd x.2.2.1),.d (eSl 3 (e1 eInt) x.2.2.2)],Slot.var 28 [.d (.int .i64 0),.nil 31,.nil 60,.nil 3],.arr 4 true (m.map (e1 eBool)),.var 28 [.d (.int .i64 x.1),kV (!(sqE x m i).isEmpty) 31 5,.nil 60,.nil 3],.arr 3 true ((plJ x m (firstQ x+i)).map (e1 eInt))]++kS (!(sqE x m i).isEmpty) 31 ((sqE x m i).map enSeq)++kS (!(sqE x m i).isEmpty) 3 ((keptK m (firstQ x) i).map (e1 eInt))) (fun i:Nat=>x.2.1.length - i) 0 ?_ ?_ ?_
 · exact Nat.zero_le _
 · exact⟨[0,1,2,3,4],by simp[sqE,kV,kS]⟩
 rintro I S μ hI hS hμ i hi
 have hsl:=sqE_len (x:=x) (m:=m) (pl:=plP x m) i
 have hsl2:=sqK_len (x:=x) (m:=m) (pl:=plP x m) i
 have hkq:=keptK_sq (x:=x) (m:=m) (pl:=plP x m) i
 have hctv:=hcs i hi
 by_cases hlt:i<x.2.1.length
 · obtain⟨e1',e2'⟩:=seqAt_mem hlt
   have hst:=sqE_succ (x:=x) (m:=m) (i:=i)
   have hkt:keptK m (firstQ x) (i+1)=if getB m (firstQ x+i)=true then keptK m (firstQ x) i++[(i:Int)] else keptK m (firstQ x) i:=rfl
   have hat:=getB_at (s:=m) (v:=firstQ x+i) (by omega)
   have hsn:=plJ_skip (x:=x) (m:=m) (j:=firstQ x+i)
   have hps:=plJ_set (x:=x) (m:=m) (j:=firstQ x+i) (by omega)
   rw[kpB_high (by omega)] at hsn hps
   have hpl:=plJ_len (x:=x) (m:=m) (j:=firstQ x+i)
   rw[hctv,←hsl] at hps
   have wv:IntKind.i64.wrap (1+x.1+(i:Int))=((firstQ x+i:Nat):Int):=by rw[wrap_id (by omega) (by omega)];omega
   have w2:IntKind.i64.wrap ((i:Int)+1)=((i+1:Nat):Int):=by rw[wrap_id (by omega) (by omega)];omega
   have hLs:(enSeq (seqAt x i)).length=3:=rfl
   have hd:=decide_eq_true hlt
   have wq:IntKind.i64.wrap (1+x.1)=1+x.1:=wrap_id (by omega) (by omega)
   obtain⟨s2,hs2⟩:∃ s2,sqE x m (i+1)=s2:=⟨_,rfl⟩
   obtain⟨k2,hk2⟩:∃ k2,keptK m (firstQ x) (i+1)=k2:=⟨_,rfl⟩
   obtain⟨p2,hp2⟩:∃ p2,plJ x m (firstQ x+(i+1))=p2:=⟨_,rfl⟩
   rw[show firstQ x+i+1=firstQ x+(i+1) by omega,hp2] at hps hsn
   rw[hs2] at hst
   rw[hk2] at hkt
   obtain⟨v,hv⟩:∃ v,firstQ x+i=v:=⟨_,rfl⟩
   have hkl2:(keptK m (firstQ x) i).length=(sqE x m i).length:=by rw[hkq,hsl]
   rw[hv] at hat hps hsn hpl wv hst hkt ⊢
   have hvN:v<grN x:=by omega
   generalize plJ x m v=p1 at *
   generalize keptK m (firstQ x) i=ks at *
   generalize sqE x m i=es at *
   obtain⟨n,hn⟩:∃ n,es.length=n:=⟨_,rfl⟩
   have hn12:n≤12:=by omega
   obtain⟨z0,hz0⟩:∃ z0,p1[v]? = some z0:=⟨_,List.getElem?_eq_getElem (by omega)⟩
   generalize seqAt x i=sq at *
   cases hkb:getB m v with
   | false =>
     rw[hkb,if_neg (by simp)] at hst hkt
     rw[hkb] at hat
     have hp:=hsn hkb
     by_cases h0:es=[]
     · have hk0:ks=[]:=List.eq_nil_of_length_eq_zero (by rw[hkl2,h0];rfl)
       subst h0 hk0
       simp only[List.isEmpty_nil,Bool.not_true,kV_no,kS_no]
       simp[hd,e1',hLs,enSeq]
       refine call_step (firstSeq_con x ⟨n1,n2⟩) ?_
       simp[wv,hat,w2,enGr]
       exact round_of hI hS hμ (i+1) (by omega) (by omega) ⟨[0,1,2,3,4],by simp[hs2,hk2,hst,hkt,hp2,hp,kV,kS]⟩
     · have hb:(!es.isEmpty)=true:=by cases es with|nil=>exact absurd rfl h0|cons _ _=>rfl
       rw[hb,kV_yes,kV_yes,kS_yes,kS_yes]
       simp[hd,e1',hLs,enSeq]
       refine call_step (firstSeq_con x ⟨n1,n2⟩) ?_
       simp[wv,hat,w2,enGr]
       exact round_of hI hS hμ (i+1) (by omega) (by omega) ⟨[0,1,2,3,4,5,6],by simp[hs2,hk2,hst,hkt,hp2,hp,hb,kV,kS]⟩
   | true =>
     rw[hkb,if_pos rfl] at hst hkt
     rw[hkb] at hat
     have hp:=hps hkb
     have hse:(p1.map (e1 eInt)).set v [D.int .i64 (2*(1+x.1+(n:Int)))]=p2.map (e1 eInt):=by
      rw[←hp,List.map_set,hn,show ((firstQ x+n:Nat):Int)=1+x.1+(n:Int) by omega];rfl
     have w3:IntKind.i64.wrap (1+x.1+(n:Int))=1+x.1+(n:Int):=wrap_id (by omega) (by omega)
     have w4:IntKind.i64.wrap (2*(1+x.1+(n:Int)))=2*(1+x.1+(n:Int)):=wrap_id (by omega) (by omega)
     have hb2:(!s2.isEmpty)=true:=by rw[hst];cases es<;>rfl
     have hsm:s2.map enSeq=es.map enSeq++[[.int .i64 sq.1,.int .i64 sq.2.1,.sl 3 []]]:=by rw[hst,List.map_append];rfl
     have hkm:k2.map (e1 eInt)=ks.map (e1 eInt)++[[.int .i64 (i:Int)]]:=by rw[hkt,List.map_append];rfl
     by_cases h0:es=[]
     · have hk0:ks=[]:=List.eq_nil_of_length_eq_zero (by rw[hkl2,h0];rfl)
       subst h0 hk0
       obtain rfl:n=0:=by rw[←hn];rfl
       rw[Int.natCast_zero,Int.add_zero] at hse w3 w4
       simp only[List.isEmpty_nil,Bool.not_true,kV_no,kS_no]
       simp[hd,e1',hLs,enSeq]
       refine call_step (firstSeq_con x ⟨n1,n2⟩) ?_
       simp[wv,hat,enGr]
       refine drawD_of 14 (by kernel_rfl) ?_
       simp[enGr]
       refine call_step (firstSeq_con x ⟨n1,n2⟩) ?_
       simp[wv,wq,w3,w4,hz0,hse,enGr]
       first | refine app_lit (q:=1) vt_el_24 (by exact rfl) (by simp) (by exact rfl) (by exact rfl) (by simp) (by simp) (by first | (simp;done)|(simp;omega)) ?_|refine app_row vt_el_24 (by exact rfl) (by simp) (by exact rfl) (by simp) (by first | (simp;done)|(simp;omega)) ?_
       simp
       refine app_data vt_el_26 rfl (by simp) rfl (by simp) (by simp) (by first | (simp;done)|(simp;omega)) (by simp[flatP,flatD]) ?_
       simp[w2]
       exact round_of hI hS hμ (i+1) (by omega) (by omega) ⟨[0,1,2,3,4,7,9],by simp[hs2,hk2,hsm,hkm,hp2,hb2,kV,kS]⟩
     · have hb:(!es.isEmpty)=true:=by cases es with|nil=>exact absurd rfl h0|cons _ _=>rfl
       rw[hb,kV_yes,kV_yes,kS_yes,kS_yes]
       simp[hd,e1',hLs,enSeq]
       refine call_step (firstSeq_con x ⟨n1,n2⟩) ?_
       simp[wv,hat,enGr]
       refine drawD_of 14 (by kernel_rfl) ?_
       simp[enGr]
       refine call_step (firstSeq_con x ⟨n1,n2⟩) ?_
       simp[wv,wq,hn,w3,w4,hz0,hse,enGr]
       first | refine app_lit (q:=1) vt_el_24 (by exact rfl) (by simp) (by exact rfl) (by exact rfl) (by simp) (by simp) (by first | (simp;done)|(simp;omega)) ?_|refine app_row vt_el_24 (by exact rfl) (by simp) (by exact rfl) (by simp) (by first | (simp;done)|(simp;omega)) ?_
       simp
       refine app_data vt_el_26 rfl (by simp) rfl (by simp) (by simp) (by first | (simp;done)|(simp;omega)) (by simp[flatP,flatD]) ?_
       simp[w2]
       exact round_of hI hS hμ (i+1) (by omega) (by omega) ⟨[0,1,2,3,4,9,11],by simp[hs2,hk2,hsm,hkm,hp2,hb2,kV,kS]⟩
 obtain rfl:i=x.2.1.length:=by omega
 clear hI hS hμ
 rw[show firstQ x+x.2.1.length=firstG x+0 from rfl]
 have hfp:firstG (prG x m)=firstQ x+(sqE x m x.2.1.length).length:=by rw[pr_first,hsl]
 have hlo:litsAt (grN x) x.2.2.2:=fun l hl=>by obtain⟨a,b,c⟩:=hout l hl;exact⟨a,by unfold litN at b;omega⟩
 have hls:∀ i,i<x.2.1.length→(seqAt x i).2.2.length≤1048576:=fun i h=>hx.2.1 _ (List.mem_of_getElem? (seqAt_mem h).1)
 have hlt2:∀ i,i<x.2.1.length→getB m (firstQ x+i)=true→litsAt (grN x) (seqAt x i).2.2:=fun i h1 h2 l hl=>by obtain⟨a,b,c⟩:=hseq i h1 h2 l hl;exact⟨a,by unfold litN at b;omega⟩
 have hkat:=fun j z h=>kept_at2 (x:=x) (m:=m) (pl:=plP x m) x.2.1.length j z h
 have hseq2:=hseq
 generalize hPP:plP x m=pl at *
 have hlp:pl.length=grN x:=by rw[←hPP];simp[plP]
 have hpf:plJ x m (grN x)=pl:=by rw[←hPP];exact plJ_all
 generalize sqK x m pl x.2.1.length=Q at *
 generalize keptK m (firstQ x) x.2.1.length=ks at *
 generalize sqE x m x.2.1.length=es at *
 by_cases h0:es=[]
 · have hk0:ks=[]:=List.eq_nil_of_length_eq_zero (by rw[hkq,←hsl,h0];rfl)
   have hQ0:Q=[]:=List.eq_nil_of_length_eq_zero (by rw[←hsl,h0];rfl)
   subst h0 hk0 hQ0
   simp only[List.isEmpty_nil,Bool.not_true,kV_no,kS_no]
   simp[hlt,decide_eq_false hlt]
   refine aw_loopN [false,true,true,true,true,true,false,true,false,false,false,false,false,false,false,false,false,false,false,false,false,false,false,false,false,false,false,false,false,false,false,false,false,false,false,false,false,false,false,false,false,false,false,false,false,false,false,false,false,false,false,false,false,false,false,false,false,false,false,false,false,false,false,false,false,false,false,false,false,false,false,false,false,false,false,false,false,false,false,true,true,true,false,false,false,false,false,false,false,false,false,false,false,false,false,false,false,false,false,false,false,false,false,false,false,false,false,false,false,false,false,false,false,false,false,false,false,false,false,false,false,false,false,false,false,false,false,false,false,false,false,false,false,false,false,false,false,false,false,false,false,false,false] (fun i:Nat=>i≤x.2.2.1.length) (fun i:Nat=>[(81,.d (.int .i64 i))]) (fun i:Nat=>fun _=>[Slot.var 28 [.d (.int .i64 x.1),.d (eSl 31 enSeq x.2.1),.d (eSl 60 enAnd x.2.2.1),.d (eSl 3 (e1 eInt) x.2.2.2)],Slot.var 28 [.d (.int .i64 0),.nil 31,.nil 60,.nil 3],.arr 4 true (m.map (e1 eBool)),.var 28 [.d (.int .i64 x.1),.nil 31,kV (!(anP x m pl i).isEmpty) 60 5,.nil 3],.arr 3 true ((plJ x m (firstG x+i)).map (e1 eInt))]++kS (!(anP x m pl i).isEmpty) 60 ((anP x m pl i).map enAnd)) (fun i:Nat=>x.2.2.1.length - i) 0 ?_ ?_ ?_
   · exact Nat.zero_le _
   · exact⟨[0,1,2,3,4],by simp[anP,kV,kS]⟩
   rintro I S μ hI hS hμ i hi
   have hal:=anP_len (x:=x) (m:=m) (pl:=pl) i
   have hctv:=hca i hi
   by_cases hli:i<x.2.2.1.length
   · obtain⟨ha,a1,a2,a3,a4,a5,a6⟩:=and_at hok (v:=firstG x+i) (by omega) (by omega)
     rw[Nat.add_sub_cancel_left] at ha
     have hst:=anP_succ (x:=x) (m:=m) (pl:=pl) (i:=i)
     have hat:=getB_at (s:=m) (v:=firstG x+i) (by omega)
     have hsn:=plJ_skip (x:=x) (m:=m) (j:=firstG x+i)
     have hps:=plJ_set (x:=x) (m:=m) (j:=firstG x+i) (by omega)
     rw[kpB_high (by omega)] at hsn hps
     have hpl:=plJ_len (x:=x) (m:=m) (j:=firstG x+i)
     rw[hctv] at hps
     have hkd:=fun h l hl=>hand i hli h l hl
     have hlit:=fun l h1 h2=>plJ_lit (x:=x) (m:=m) (j:=firstG x+i) (l:=l) h1 h2
     rw[hPP] at hlit
     have wv:IntKind.i64.wrap (1+x.1+(x.2.1.length:Int)+(i:Int))=((firstG x+i:Nat):Int):=by rw[wrap_id (by omega) (by omega)];omega
     have w2:IntKind.i64.wrap ((i:Int)+1)=((i+1:Nat):Int):=by rw[wrap_id (by omega) (by omega)];omega
     have hLa:(enAnd (andAt x (firstG x+i))).length=2:=rfl
     have hd:=decide_eq_true hli
     rw[hfp] at hps
     obtain⟨s2,hs2⟩:∃ s2,anP x m pl (i+1)=s2:=⟨_,rfl⟩
     obtain⟨p2,hp2⟩:∃ p2,plJ x m (firstG x+(i+1))=p2:=⟨_,rfl⟩
     rw[show firstG x+i+1=firstG x+(i+1) by omega,hp2] at hps hsn
     rw[hs2] at hst
     obtain⟨v,hv⟩:∃ v,firstG x+i=v:=⟨_,rfl⟩
     rw[hv] at hat hps hsn hpl wv hst hkd hlit hLa ha a1 a2 a3 a4 a5 a6 ⊢
     have hvN:v<grN x:=by omega
     generalize plJ x m v=p1 at *
     generalize anP x m pl i=ns at *
     generalize andAt x v=an at *
     obtain⟨z0,hz0⟩:∃ z0,p1[v]? = some z0:=⟨_,List.getElem?_eq_getElem (by omega)⟩
     cases hkb:getB m v with
     | false =>
       rw[hkb,if_neg (by simp)] at hst
       rw[hkb] at hat
       have hp:=hsn hkb
       by_cases hn0:ns=[]
       · subst hn0
         simp only[List.isEmpty_nil,Bool.not_true,kV_no,kS_no]
         simp[hd,ha,hLa,enAnd]
         refine call_step (firstAnd_con x ⟨n1,n2⟩ n3) ?_
         simp[wv,hat,w2,enGr]
         exact round_of hI hS hμ (i+1) (by omega) (by omega) ⟨[0,1,2,3,4],by simp[hs2,hst,hp2,hp,kV,kS]⟩
       · have hb:(!ns.isEmpty)=true:=by cases ns with|nil=>exact absurd rfl hn0|cons _ _=>rfl
         rw[hb,kV_yes,kS_yes]
         simp[hd,ha,hLa,enAnd]
         refine call_step (firstAnd_con x ⟨n1,n2⟩ n3) ?_
         simp[wv,hat,w2,enGr]
         exact round_of hI hS hμ (i+1) (by omega) (by omega) ⟨[0,1,2,3,4,5],by simp[hs2,hst,hp2,hp,hb,kV,kS]⟩
     | true =>
       rw[hkb,if_pos rfl] at hst
       rw[hkb] at hat
       have hp:=hps hkb
       obtain⟨b1,b2,b3⟩:=hkd hkb an.1 (.inl rfl)
       obtain⟨c1,c2,c3⟩:=hkd hkb an.2 (.inr rfl)
       have km1:=mapLit_con p1 an.1 (by omega) ⟨b1,by unfold litN at b2;omega⟩
       have km2:=mapLit_con p1 an.2 (by omega) ⟨c1,by unfold litN at c2;omega⟩
       rw[hlit _ b1 b2] at km1
       rw[hlit _ c1 c2] at km2
       generalize plMapV pl an.1=y1 at *
       generalize plMapV pl an.2=y2 at *
       have hb2:(!s2.isEmpty)=true:=by rw[hst];cases ns<;>rfl
       have hsm:s2.map enAnd=ns.map enAnd++[[.int .i64 y1,.int .i64 y2]]:=by rw[hst,List.map_append];rfl
       have hs2l:s2.length=ns.length+1:=by rw[hst];simp
       obtain⟨c,hc⟩:∃ c:Int,1+x.1+((List.length ([]:List SeqD)):Int)+(ns.length:Int)=c:=⟨_,rfl⟩
       have kn:=nodeCnt_an x.1 [] s2 (c+1) ⟨n1,n2⟩ (by omega) (by omega) (by rw[hs2l];omega)
       have kn':ConC Try.prog 63 [.agg [.int .i64 x.1,.sl 31 (([]:List SeqD).map enSeq),.sl 60 (ns.map enAnd++[[.int .i64 y1,.int .i64 y2]]),.sl 3 []]] (.d (.int .i64 (c+1))):=by rw[←hsm];exact kn
       have w5:IntKind.i64.wrap (c+1 - 1)=c:=by rw[wrap_id (by omega) (by omega)];omega
       have w7:IntKind.i64.wrap c=c:=wrap_id (by omega) (by omega)
       have w6:IntKind.i64.wrap (2*c)=2*c:=wrap_id (by omega) (by omega)
       have hse:(p1.map (e1 eInt)).set v [D.int .i64 (2*c)]=p2.map (e1 eInt):=by
        rw[←hp,List.map_set,show ((firstQ x+(List.length ([]:List SeqD))+ns.length:Nat):Int)=c by omega];rfl
       by_cases hn0:ns=[]
       · subst hn0
         simp only[List.isEmpty_nil,Bool.not_true,kV_no,kS_no]
         simp[hd,ha,hLa,enAnd]
         refine call_step (firstAnd_con x ⟨n1,n2⟩ n3) ?_
         simp[wv,hat,enGr]
         refine drawD_of 12 (by kernel_rfl) ?_
         simp[enGr]
         refine call_step (km1) ?_
         simp
         refine call_step (km2) ?_
         simp
         refine app_data vt_el_25 rfl (by simp) rfl (by simp) (by simp) (by first | (simp;done)|(simp;omega)) (by simp[flatP,flatD]) ?_
         simp
         simp only[List.map_nil,List.nil_append] at kn' hsm
         refine call_step (kn') ?_
         simp[w5,w6,w7,hz0,hse,w2]
         exact round_of hI hS hμ (i+1) (by omega) (by omega) ⟨[0,1,2,3,4,7],by simp[hs2,hsm,hp2,hb2,kV,kS]⟩
       · have hb:(!ns.isEmpty)=true:=by cases ns with|nil=>exact absurd rfl hn0|cons _ _=>rfl
         rw[hb,kV_yes,kS_yes]
         simp[hd,ha,hLa,enAnd]
         refine call_step (firstAnd_con x ⟨n1,n2⟩ n3) ?_
         simp[wv,hat,enGr]
         refine drawD_of 12 (by kernel_rfl) ?_
         simp[enGr]
         refine call_step (km1) ?_
         simp
         refine call_step (km2) ?_
         simp
         refine app_data vt_el_25 rfl (by simp) rfl (by simp) (by simp) (by first | (simp;done)|(simp;omega)) (by simp[flatP,flatD]) ?_
         simp
         simp only[List.map_nil] at kn'
         refine call_step (kn') ?_
         simp[w5,w6,w7,hz0,hse,w2]
         exact round_of hI hS hμ (i+1) (by omega) (by omega) ⟨[0,1,2,3,4,8],by simp[hs2,hsm,hp2,hb2,kV,kS]⟩
   obtain rfl:i=x.2.2.1.length:=by omega
   clear hI hS hμ
   rw[←hN,hpf]
   have kmo:=mapLits_con pl x.2.2.2 (by omega) (by omega) (by rw[hlp];exact hlo)
   generalize x.2.2.2.map (plMapV pl)=oo at *
   generalize anP x m pl x.2.2.1.length=ns at *
   by_cases hn0:ns=[]
   · subst hn0
     simp only[List.isEmpty_nil,Bool.not_true,kV_no,kS_no]
     simp[hli,decide_eq_false hli]
     refine aw_loopN [false,true,true,false,true,true,false,false,false,false,false,false,false,false,false,false,false,false,false,false,false,false,false,false,false,false,false,false,false,false,false,false,false,false,false,false,false,false,false,false,false,false,false,false,false,false,false,false,false,false,false,false,false,false,false,false,false,false,false,false,false,false,false,false,false,false,false,false,false,false,false,false,false,false,false,false,false,false,false,false,false,false,false,false,false,false,false,false,false,false,false,false,false,false,false,false,false,false,false,false,false,false,false,false,false,false,false,false,false,false,false,false,false,false,false,false,true,true,true,false,false,false,false,false,false,false,false,false,false,false,false,false,false,false,false,false,false,false,false,false,false,false,false] (fun j:Nat=>j≤0) (fun j:Nat=>[(118,.d (.int .i64 j))]) (fun j:Nat=>fun _=>[Slot.var 28 [.d (.int .i64 x.1),.d (eSl 31 enSeq x.2.1),.d (eSl 60 enAnd x.2.2.1),.d (eSl 3 (e1 eInt) x.2.2.2)],Slot.var 28 [.d (.int .i64 0),.nil 31,.nil 60,.nil 3],.arr 4 true (m.map (e1 eBool)),.var 28 [.d (.int .i64 x.1),.nil 31,.nil 60,.nil 3],.arr 3 true (pl.map (e1 eInt))]) (fun j:Nat=>0) 0 ?_ ?_ ?_
     · exact Nat.zero_le _
     · exact⟨[0,1,2,3,4],by simp⟩
     rintro I S μ hI hS hμ j hj
     obtain rfl:j=0:=by omega
     simp
     refine call_step (kmo) ?_
     simp
     exact⟨[],by simp⟩
   · have hb2:(!ns.isEmpty)=true:=by cases ns with|nil=>exact absurd rfl hn0|cons _ _=>rfl
     rw[hb2,kV_yes,kS_yes]
     simp[hli,decide_eq_false hli]
     refine aw_loopN [false,true,true,false,true,true,false,false,false,false,false,false,false,false,false,false,false,false,false,false,false,false,false,false,false,false,false,false,false,false,false,false,false,false,false,false,false,false,false,false,false,false,false,false,false,false,false,false,false,false,false,false,false,false,false,false,false,false,false,false,false,false,false,false,false,false,false,false,false,false,false,false,false,false,false,false,false,false,false,false,false,false,false,false,false,false,false,false,false,false,false,false,false,false,false,false,false,false,false,false,false,false,false,false,false,false,false,false,false,false,false,false,false,false,false,false,true,true,true,false,false,false,false,false,false,false,false,false,false,false,false,false,false,false,false,false,false,false,false,false,false,false,false] (fun j:Nat=>j≤0) (fun j:Nat=>[(118,.d (.int .i64 j))]) (fun j:Nat=>fun _=>[Slot.var 28 [.d (.int .i64 x.1),.d (eSl 31 enSeq x.2.1),.d (eSl 60 enAnd x.2.2.1),.d (eSl 3 (e1 eInt) x.2.2.2)],Slot.var 28 [.d (.int .i64 0),.nil 31,.nil 60,.nil 3],.arr 4 true (m.map (e1 eBool)),.var 28 [.d (.int .i64 x.1),.nil 31,.ref 5,.nil 3],.arr 3 true (pl.map (e1 eInt)),.arr 60 true (ns.map enAnd)]) (fun j:Nat=>0) 0 ?_ ?_ ?_
     · exact Nat.zero_le _
     · exact⟨[0,1,2,3,4,5],by simp⟩
     rintro I S μ hI hS hμ j hj
     obtain rfl:j=0:=by omega
     simp
     refine call_step (kmo) ?_
     simp
     exact⟨[],by simp⟩
 · have hb:(!es.isEmpty)=true:=by cases es with|nil=>exact absurd rfl h0|cons _ _=>rfl
   rw[hb,kV_yes,kV_yes,kS_yes,kS_yes]
   simp[hlt,decide_eq_false hlt]
   refine aw_loopN [false,true,true,true,true,true,false,true,false,false,false,false,false,false,false,false,false,false,false,false,false,false,false,false,false,false,false,false,false,false,false,false,false,false,false,false,false,false,false,false,false,false,false,false,false,false,false,false,false,false,false,false,false,false,false,false,false,false,false,false,false,false,false,false,false,false,false,false,false,false,false,false,false,false,false,false,false,false,false,true,true,true,false,false,false,false,false,false,false,false,false,false,false,false,false,false,false,false,false,false,false,false,false,false,false,false,false,false,false,false,false,false,false,false,false,false,false,false,false,false,false,false,false,false,false,false,false,false,false,false,false,false,false,false,false,false,false,false,false,false,false,false,false] (fun i:Nat=>i≤x.2.2.1.length) (fun i:Nat=>[(81,.d (.int .i64 i))]) (fun i:Nat=>fun _=>[Slot.var 28 [.d (.int .i64 x.1),.d (eSl 31 enSeq x.2.1),.d (eSl 60 enAnd x.2.2.1),.d (eSl 3 (e1 eInt) x.2.2.2)],Slot.var 28 [.d (.int .i64 0),.nil 31,.nil 60,.nil 3],.arr 4 true (m.map (e1 eBool)),.var 28 [.d (.int .i64 x.1),.ref 5,kV (!(anP x m pl i).isEmpty) 60 7,.nil 3],.arr 3 true ((plJ x m (firstG x+i)).map (e1 eInt)),.arr 31 true (es.map enSeq),.arr 3 true (ks.map (e1 eInt))]++kS (!(anP x m pl i).isEmpty) 60 ((anP x m pl i).map enAnd)) (fun i:Nat=>x.2.2.1.length - i) 0 ?_ ?_ ?_
   · exact Nat.zero_le _
   · exact⟨[0,1,2,3,4,5,6],by simp[anP,kV,kS]⟩
   rintro I S μ hI hS hμ i hi
   have hal:=anP_len (x:=x) (m:=m) (pl:=pl) i
   have hctv:=hca i hi
   by_cases hli:i<x.2.2.1.length
   · obtain⟨ha,a1,a2,a3,a4,a5,a6⟩:=and_at hok (v:=firstG x+i) (by omega) (by omega)
     rw[Nat.add_sub_cancel_left] at ha
     have hst:=anP_succ (x:=x) (m:=m) (pl:=pl) (i:=i)
     have hat:=getB_at (s:=m) (v:=firstG x+i) (by omega)
     have hsn:=plJ_skip (x:=x) (m:=m) (j:=firstG x+i)
     have hps:=plJ_set (x:=x) (m:=m) (j:=firstG x+i) (by omega)
     rw[kpB_high (by omega)] at hsn hps
     have hpl:=plJ_len (x:=x) (m:=m) (j:=firstG x+i)
     rw[hctv] at hps
     have hkd:=fun h l hl=>hand i hli h l hl
     have hlit:=fun l h1 h2=>plJ_lit (x:=x) (m:=m) (j:=firstG x+i) (l:=l) h1 h2
     rw[hPP] at hlit
     have wv:IntKind.i64.wrap (1+x.1+(x.2.1.length:Int)+(i:Int))=((firstG x+i:Nat):Int):=by rw[wrap_id (by omega) (by omega)];omega
     have w2:IntKind.i64.wrap ((i:Int)+1)=((i+1:Nat):Int):=by rw[wrap_id (by omega) (by omega)];omega
     have hLa:(enAnd (andAt x (firstG x+i))).length=2:=rfl
     have hd:=decide_eq_true hli
     rw[hfp] at hps
     obtain⟨s2,hs2⟩:∃ s2,anP x m pl (i+1)=s2:=⟨_,rfl⟩
     obtain⟨p2,hp2⟩:∃ p2,plJ x m (firstG x+(i+1))=p2:=⟨_,rfl⟩
     rw[show firstG x+i+1=firstG x+(i+1) by omega,hp2] at hps hsn
     rw[hs2] at hst
     obtain⟨v,hv⟩:∃ v,firstG x+i=v:=⟨_,rfl⟩
     rw[hv] at hat hps hsn hpl wv hst hkd hlit hLa ha a1 a2 a3 a4 a5 a6 ⊢
     have hvN:v<grN x:=by omega
     generalize plJ x m v=p1 at *
     generalize anP x m pl i=ns at *
     generalize andAt x v=an at *
     obtain⟨z0,hz0⟩:∃ z0,p1[v]? = some z0:=⟨_,List.getElem?_eq_getElem (by omega)⟩
     cases hkb:getB m v with
     | false =>
       rw[hkb,if_neg (by simp)] at hst
       rw[hkb] at hat
       have hp:=hsn hkb
       by_cases hn0:ns=[]
       · subst hn0
         simp only[List.isEmpty_nil,Bool.not_true,kV_no,kS_no]
         simp[hd,ha,hLa,enAnd]
         refine call_step (firstAnd_con x ⟨n1,n2⟩ n3) ?_
         simp[wv,hat,w2,enGr]
         exact round_of hI hS hμ (i+1) (by omega) (by omega) ⟨[0,1,2,3,4,5,6],by simp[hs2,hst,hp2,hp,kV,kS]⟩
       · have hb:(!ns.isEmpty)=true:=by cases ns with|nil=>exact absurd rfl hn0|cons _ _=>rfl
         rw[hb,kV_yes,kS_yes]
         simp[hd,ha,hLa,enAnd]
         refine call_step (firstAnd_con x ⟨n1,n2⟩ n3) ?_
         simp[wv,hat,w2,enGr]
         exact round_of hI hS hμ (i+1) (by omega) (by omega) ⟨[0,1,2,3,4,5,6,7],by simp[hs2,hst,hp2,hp,hb,kV,kS]⟩
     | true =>
       rw[hkb,if_pos rfl] at hst
       rw[hkb] at hat
       have hp:=hps hkb
       obtain⟨b1,b2,b3⟩:=hkd hkb an.1 (.inl rfl)
       obtain⟨c1,c2,c3⟩:=hkd hkb an.2 (.inr rfl)
       have km1:=mapLit_con p1 an.1 (by omega) ⟨b1,by unfold litN at b2;omega⟩
       have km2:=mapLit_con p1 an.2 (by omega) ⟨c1,by unfold litN at c2;omega⟩
       rw[hlit _ b1 b2] at km1
       rw[hlit _ c1 c2] at km2
       generalize plMapV pl an.1=y1 at *
       generalize plMapV pl an.2=y2 at *
       have hb2:(!s2.isEmpty)=true:=by rw[hst];cases ns<;>rfl
       have hsm:s2.map enAnd=ns.map enAnd++[[.int .i64 y1,.int .i64 y2]]:=by rw[hst,List.map_append];rfl
       have hs2l:s2.length=ns.length+1:=by rw[hst];simp
       obtain⟨c,hc⟩:∃ c:Int,1+x.1+(es.length:Int)+(ns.length:Int)=c:=⟨_,rfl⟩
       have kn:=nodeCnt_an x.1 es s2 (c+1) ⟨n1,n2⟩ (by omega) (by omega) (by rw[hs2l];omega)
       have kn':ConC Try.prog 63 [.agg [.int .i64 x.1,.sl 31 (es.map enSeq),.sl 60 (ns.map enAnd++[[.int .i64 y1,.int .i64 y2]]),.sl 3 []]] (.d (.int .i64 (c+1))):=by rw[←hsm];exact kn
       have w5:IntKind.i64.wrap (c+1 - 1)=c:=by rw[wrap_id (by omega) (by omega)];omega
       have w7:IntKind.i64.wrap c=c:=wrap_id (by omega) (by omega)
       have w6:IntKind.i64.wrap (2*c)=2*c:=wrap_id (by omega) (by omega)
       have hse:(p1.map (e1 eInt)).set v [D.int .i64 (2*c)]=p2.map (e1 eInt):=by
        rw[←hp,List.map_set,show ((firstQ x+es.length+ns.length:Nat):Int)=c by omega];rfl
       by_cases hn0:ns=[]
       · subst hn0
         simp only[List.isEmpty_nil,Bool.not_true,kV_no,kS_no]
         simp[hd,ha,hLa,enAnd]
         refine call_step (firstAnd_con x ⟨n1,n2⟩ n3) ?_
         simp[wv,hat,enGr]
         refine drawD_of 12 (by kernel_rfl) ?_
         simp[enGr]
         refine call_step (km1) ?_
         simp
         refine call_step (km2) ?_
         simp
         refine app_data vt_el_25 rfl (by simp) rfl (by simp) (by simp) (by first | (simp;done)|(simp;omega)) (by simp[flatP,flatD]) ?_
         simp
         simp only[List.map_nil,List.nil_append] at kn' hsm
         refine call_step (kn') ?_
         simp[w5,w6,w7,hz0,hse,w2]
         exact round_of hI hS hμ (i+1) (by omega) (by omega) ⟨[0,1,2,3,4,5,6,9],by simp[hs2,hsm,hp2,hb2,kV,kS]⟩
       · have hb:(!ns.isEmpty)=true:=by cases ns with|nil=>exact absurd rfl hn0|cons _ _=>rfl
         rw[hb,kV_yes,kS_yes]
         simp[hd,ha,hLa,enAnd]
         refine call_step (firstAnd_con x ⟨n1,n2⟩ n3) ?_
         simp[wv,hat,enGr]
         refine drawD_of 12 (by kernel_rfl) ?_
         simp[enGr]
         refine call_step (km1) ?_
         simp
         refine call_step (km2) ?_
         simp
         refine app_data vt_el_25 rfl (by simp) rfl (by simp) (by simp) (by first | (simp;done)|(simp;omega)) (by simp[flatP,flatD]) ?_
         simp
         refine call_step (kn') ?_
         simp[w5,w6,w7,hz0,hse,w2]
         exact round_of hI hS hμ (i+1) (by omega) (by omega) ⟨[0,1,2,3,4,5,6,10],by simp[hs2,hsm,hp2,hb2,kV,kS]⟩
   obtain rfl:i=x.2.2.1.length:=by omega
   clear hI hS hμ
   rw[←hN,hpf]
   have kmo:=mapLits_con pl x.2.2.2 (by omega) (by omega) (by rw[hlp];exact hlo)
   generalize x.2.2.2.map (plMapV pl)=oo at *
   generalize anP x m pl x.2.2.1.length=ns at *
   by_cases hn0:ns=[]
   · subst hn0
     simp only[List.isEmpty_nil,Bool.not_true,kV_no,kS_no]
     simp[hli,decide_eq_false hli]
     rw[←mixQ_zero (Q:=Q) (es:=es)]
     refine aw_loopN [false,true,true,false,true,true,false,false,false,false,false,false,false,false,false,false,false,false,false,false,false,false,false,false,false,false,false,false,false,false,false,false,false,false,false,false,false,false,false,false,false,false,false,false,false,false,false,false,false,false,false,false,false,false,false,false,false,false,false,false,false,false,false,false,false,false,false,false,false,false,false,false,false,false,false,false,false,false,false,false,false,false,false,false,false,false,false,false,false,false,false,false,false,false,false,false,false,false,false,false,false,false,false,false,false,false,false,false,false,false,false,false,false,false,false,false,true,true,true,false,false,false,false,false,false,false,false,false,false,false,false,false,false,false,false,false,false,false,false,false,false,false,false] (fun j:Nat=>j≤ks.length) (fun j:Nat=>[(118,.d (.int .i64 j))]) (fun j:Nat=>fun _=>[Slot.var 28 [.d (.int .i64 x.1),.d (eSl 31 enSeq x.2.1),.d (eSl 60 enAnd x.2.2.1),.d (eSl 3 (e1 eInt) x.2.2.2)],Slot.var 28 [.d (.int .i64 0),.nil 31,.nil 60,.nil 3],.arr 4 true (m.map (e1 eBool)),.var 28 [.d (.int .i64 x.1),.ref 5,.nil 60,.nil 3],.arr 3 true (pl.map (e1 eInt)),.arr 31 true ((mixQ Q es j).map enSeq),.arr 3 true (ks.map (e1 eInt))]) (fun j:Nat=>ks.length - j) 0 ?_ ?_ ?_
     · exact Nat.zero_le _
     · exact⟨[0,1,2,3,4,5,6],by simp⟩
     rintro I S μ hI hS hμ j hj
     by_cases hlj:j<ks.length
     · obtain⟨z,hz⟩:∃ z,ks[j]? = some z:=⟨_,List.getElem?_eq_getElem hlj⟩
       obtain⟨i,hzi,h1,h2,h3,h4⟩:=hkat j z hz
       subst hzi
       obtain⟨e1',e2'⟩:=seqAt_mem h1
       have hat:=mixQ_at (Q:=Q) h3 (by omega)
       have hset:=mixQ_set (es:=es) h4 (by omega)
       have hzl:=mixQ_len (Q:=Q) (es:=es) (j:=j) (by omega)
       have km:=mapLits_con pl (seqAt x i).2.2 (by omega) (hls i h1) (by rw[hlp];exact hlt2 i h1 h2)
       have w2:IntKind.i64.wrap ((j:Int)+1)=((j+1:Nat):Int):=by rw[wrap_id (by omega) (by omega)];omega
       have hL:(enSeq (seqAt x i)).length=3:=rfl
       have hL2:(enSeq (nilSeq (seqAt x i))).length=3:=rfl
       have hse:((mixQ Q es j).map enSeq).set j (enSeq (mapSeq pl (seqAt x i)))=(mixQ Q es (j+1)).map enSeq:=by rw[←hset,List.map_set]
       obtain⟨z2,hz2⟩:∃ z2,mixQ Q es (j+1)=z2:=⟨_,rfl⟩
       rw[hz2] at hse
       clear hset
       generalize mixQ Q es j=z1 at *
       generalize seqAt x i=sq at *
       simp only[mapSeq,enSeq,e3,eInt,eSl] at hse
       simp[decide_eq_true hlj,hz,e1',hL,enSeq]
       refine drawD_of 13 (by kernel_rfl) ?_
       simp[e1',hL,hat,hL2,enSeq,nilSeq]
       refine call_step (km) ?_
       simp[hat,hL2,enSeq,nilSeq]
       simp only[List.map_map] at hse
       simp[hse,w2]
       exact round_of hI hS hμ (j+1) (by omega) (by omega) ⟨[0,1,2,3,4,5,6],by simp[hz2]⟩
     obtain rfl:j=ks.length:=by omega
     rw[mixQ_all (Q:=Q) (es:=es) (by omega) (by omega)]
     simp[hlj,decide_eq_false hlj]
     refine call_step (kmo) ?_
     simp
     exact⟨[],by simp⟩
   · have hb2:(!ns.isEmpty)=true:=by cases ns with|nil=>exact absurd rfl hn0|cons _ _=>rfl
     rw[hb2,kV_yes,kS_yes]
     simp[hli,decide_eq_false hli]
     rw[←mixQ_zero (Q:=Q) (es:=es)]
     refine aw_loopN [false,true,true,false,true,true,false,false,false,false,false,false,false,false,false,false,false,false,false,false,false,false,false,false,false,false,false,false,false,false,false,false,false,false,false,false,false,false,false,false,false,false,false,false,false,false,false,false,false,false,false,false,false,false,false,false,false,false,false,false,false,false,false,false,false,false,false,false,false,false,false,false,false,false,false,false,false,false,false,false,false,false,false,false,false,false,false,false,false,false,false,false,false,false,false,false,false,false,false,false,false,false,false,false,false,false,false,false,false,false,false,false,false,false,false,false,true,true,true,false,false,false,false,false,false,false,false,false,false,false,false,false,false,false,false,false,false,false,false,false,false,false,false] (fun j:Nat=>j≤ks.length) (fun j:Nat=>[(118,.d (.int .i64 j))]) (fun j:Nat=>fun _=>[Slot.var 28 [.d (.int .i64 x.1),.d (eSl 31 enSeq x.2.1),.d (eSl 60 enAnd x.2.2.1),.d (eSl 3 (e1 eInt) x.2.2.2)],Slot.var 28 [.d (.int .i64 0),.nil 31,.nil 60,.nil 3],.arr 4 true (m.map (e1 eBool)),.var 28 [.d (.int .i64 x.1),.ref 5,.ref 7,.nil 3],.arr 3 true (pl.map (e1 eInt)),.arr 31 true ((mixQ Q es j).map enSeq),.arr 3 true (ks.map (e1 eInt)),.arr 60 true (ns.map enAnd)]) (fun j:Nat=>ks.length - j) 0 ?_ ?_ ?_
     · exact Nat.zero_le _
     · exact⟨[0,1,2,3,4,5,6,7],by simp⟩
     rintro I S μ hI hS hμ j hj
     by_cases hlj:j<ks.length
     · obtain⟨z,hz⟩:∃ z,ks[j]? = some z:=⟨_,List.getElem?_eq_getElem hlj⟩
       obtain⟨i,hzi,h1,h2,h3,h4⟩:=hkat j z hz
       subst hzi
       obtain⟨e1',e2'⟩:=seqAt_mem h1
       have hat:=mixQ_at (Q:=Q) h3 (by omega)
       have hset:=mixQ_set (es:=es) h4 (by omega)
       have hzl:=mixQ_len (Q:=Q) (es:=es) (j:=j) (by omega)
       have km:=mapLits_con pl (seqAt x i).2.2 (by omega) (hls i h1) (by rw[hlp];exact hlt2 i h1 h2)
       have w2:IntKind.i64.wrap ((j:Int)+1)=((j+1:Nat):Int):=by rw[wrap_id (by omega) (by omega)];omega
       have hL:(enSeq (seqAt x i)).length=3:=rfl
       have hL2:(enSeq (nilSeq (seqAt x i))).length=3:=rfl
       have hse:((mixQ Q es j).map enSeq).set j (enSeq (mapSeq pl (seqAt x i)))=(mixQ Q es (j+1)).map enSeq:=by rw[←hset,List.map_set]
       obtain⟨z2,hz2⟩:∃ z2,mixQ Q es (j+1)=z2:=⟨_,rfl⟩
       rw[hz2] at hse
       clear hset
       generalize mixQ Q es j=z1 at *
       generalize seqAt x i=sq at *
       simp only[mapSeq,enSeq,e3,eInt,eSl] at hse
       simp[decide_eq_true hlj,hz,e1',hL,enSeq]
       refine drawD_of 13 (by kernel_rfl) ?_
       simp[e1',hL,hat,hL2,enSeq,nilSeq]
       refine call_step (km) ?_
       simp[hat,hL2,enSeq,nilSeq]
       simp only[List.map_map] at hse
       simp[hse,w2]
       exact round_of hI hS hμ (j+1) (by omega) (by omega) ⟨[0,1,2,3,4,5,6,7],by simp[hz2]⟩
     obtain rfl:j=ks.length:=by omega
     rw[mixQ_all (Q:=Q) (es:=es) (by omega) (by omega)]
     simp[hlj,decide_eq_false hlj]
     refine call_step (kmo) ?_
     simp
     exact⟨[],by simp⟩
end Go.Proofs.Ytnjedabjbeipeaa
