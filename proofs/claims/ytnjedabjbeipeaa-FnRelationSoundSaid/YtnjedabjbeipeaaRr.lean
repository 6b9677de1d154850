/-
  Imports of a net into another, and the net that compares two nets, by abstract walks: the reference. Nets come back as data.
  Conditions: those typed in each theorem.
-/
import Derived.Test.YtnjedabjbeipeaaRa
import Derived.Test.YtnjedabjbeipeaaKb
namespace Go.Proofs.Ytnjedabjbeipeaa
open Go.RowKit Go.ChangeShapes Go.WideShapes
set_option linter.unusedVariables false
set_option linter.unusedSimpArgs false
attribute [local simp ↓] condG_true condG_false condB_true condB_false
attribute [local simp] AWp_skip AWp_region_t AWp_region_d AWp_region_f still_mk AWp_seq AWp_cond condV_bool condB AWp_block AWp_exit AWp_ret
attribute [local simp] AOps_nil AOp_move AOp_assign AOp_pick AOp_binOp AOp_unOp AOp_convert AOp_len AOp_max AOp_min AOp_indexAddr AOp_load
attribute [local simp] AOp_fieldAddr AOp_field AOp_extract AOp_nilCheck AOp_build AOp_alloc AOp_box AOp_call AOp_store AOp_append AOp_buildSlice nextB_some
attribute [local simp] nextB_none adoptO adoptC AOp_makeSlice AOp_slice AOp_makeFunc AOp_guard guardD_some guardG_bool guardG_undef nextO_some nextS_some
attribute [local simp] nextZ_some nextL_some nextM_some nextT_some sliceO sliceL sliceT partO partV boundV funcO pickO
attribute [local simp] convO lenO maxO minO idxO extO nilO buildO litO litC makeO chunks
attribute [local simp] fillV placeOf thenA inBlockA St.get St.put St.eval ofCell evalT abin_add abin_sub abin_mul
attribute [local simp] abin_quo abin_rem abin_and abin_or abin_xor abin_andNot abin_shl abin_shr abin_shlu abin_eql abin_eqp abin_neq
attribute [local simp] abin_lss abin_leq abin_gtr abin_geq abin_eqlb abin_neqb aun pickV lenV intOf? indexV takeD
attribute [local simp] takeV loadV fieldAddrV fieldV ofX presD presDs pres presAll cellsV V.cell storeV
attribute [local simp] freezeC putAt kill takeC plains plainV scalarV nat_neg keepT sets eSl e1
attribute [local simp] e2 e3 e4 eInt eBool abinS_d abinS_agg abinS nilEq abin_eqb AOp_makeMap AOp_lookup
attribute [local simp] AOp_mapUpdate lookG_some updG_some mapV kyOf vlOf lookV vlV buildA afterCall inst inst1
attribute [local simp] inst1s instD instDs RetA resVs resV gives give1 give1s Le isPin leSlots
attribute [local simp] leS leTmps leV le0 le0s ren ren0 renS ren0s frame enterT afterT_some
attribute [local simp] afterC_some lives Slot.live arrsOk viewV view0 renT rens renSs setAll List.range'_succ RetT
attribute [local simp] RetW joinV leT AOpsE_nil AOpsE_cons AOpsT_nil AOpsT_cons isCallT isFnO callOf callVC_fn condC_true
attribute [local simp] condC_false beginT_mk beginX_mk AOpsX_zero thenT_mk pickE pickT isT loose namesOf namesV names1
attribute [local simp] names0 stableN sameAt Op.operands Call.operands
theorem flatP_ands {xs:List AndD}:flatP (xs.map enAnd):=by
 intro c hc d hd
 obtain⟨x,_,rfl⟩:=List.mem_map.1 hc
 simp only[enAnd,e2,List.mem_cons,List.not_mem_nil,or_false] at hd
 rcases hd with rfl|rfl<;>rfl
theorem flatP_ints' {xs:List Int}:flatP (xs.map (e1 eInt)):=by
 intro c hc d hd
 obtain⟨x,_,rfl⟩:=List.mem_map.1 hc
 simp[e1] at hd
 subst hd
 rfl
set_option maxRecDepth 100000 in
theorem l08CopySeqs_con (sq:List SeqD) (h1:sq.length≤1048576) (h2:∀ s∈sq,s.2.2.length≤1048576):ConC Try.prog 166 [.d (eSl 31 enSeq sq)] (.d (eSl 31 enSeq sq)):=by
 refine con_ofD (by kernel_rfl) Try.func166 rfl rfl rfl ?_
 simp
 refine aw_loopU [true,false,false,true,true,false,false,false,false,false,false,false,false,false,false,false,false,false,false,false,false,false,false,false,false,false,false,false,false,false,false,false,false,false] (fun i:Nat=>i≤sq.length) (fun i:Nat=>[(4,.d (.int .i64 i))]) (fun i:Nat=>[(0,.arr 31 true ((sq.take i).map enSeq))]) (fun i:Nat=>sq.length - i) 0 ?_ ?_ ?_
 · simp
 · exact⟨[0],by simp⟩
 rintro I S μ hI hS hμ i hi
 by_cases hlt:i<sq.length
 · have hx1:sq[i]? = some sq[i]:=List.getElem?_eq_getElem hlt
   have hnx:=take_snoc' hx1
   have hf:=h2 _ (List.getElem_mem hlt)
   have w2:IntKind.i64.wrap ((i:Int)+1)=(i:Int)+1:=wrap_id (by omega) (by omega)
   have hll:(sq.take i).length=i:=by simp;omega
   generalize sq[i]=s at *
   generalize sq.take i=ms at *
   have hL:(enSeq s).length=3:=rfl
   simp[decide_eq_true hlt]
   refine drawE_of [(17,[0,1,2,3,4,5,6,7,8,9,10]),(18,[0]),(19,[0]),(20,[]),(21,[])] (by kernel_rfl) ?_
   simp[hx1,hL,enSeq]
   refine app_data vt_el_26 rfl (by simp) rfl (by simp) (fun c hc=>by obtain⟨b,_,rfl⟩:=List.mem_map.1 hc;rfl) (by simp;omega) (fun _=>flatP_ints') ?_
   simp
   first | refine app_lit (q:=1) vt_el_24 (by exact rfl) (by simp) (by exact rfl) (by exact rfl) (by simp) (by simp) (by first | (simp;done)|(simp;omega)) ?_|refine app_row vt_el_24 (by exact rfl) (by simp) (by exact rfl) (by simp) (by first | (simp;done)|(simp;omega)) ?_
   simp[w2]
   exact round_of hI hS hμ (i+1) (by omega) (by omega) ⟨[4],by simp[hnx,enSeq,e1,e3,eInt]⟩
 · obtain rfl:i=sq.length:=by omega
   rw[List.take_length]
   simp[hlt,decide_eq_false hlt]
set_option maxRecDepth 100000 in
theorem l08Copy_con (x:GrD) (hx:fitGr 1048576 x):ConC Try.prog 156 [igr x] (igr x):=by
 obtain⟨f1,f2,f3,f4⟩:=hx
 refine con_ofD (by kernel_rfl) Try.func156 rfl rfl rfl ?_
 simp[enGr]
 refine drawE_of [(8,[0,1,9,10,11]),(12,[0,1]),(13,[]),(14,[])] (by kernel_rfl) ?_
 simp[enGr]
 refine call_step (l08CopySeqs_con x.2.1 f1 f2) ?_
 simp[enGr]
 refine app_data vt_el_25 rfl (by simp) rfl (by simp) (fun c hc=>by obtain⟨b,_,rfl⟩:=List.mem_map.1 hc;rfl) (by simp;omega) (fun _=>flatP_ands) ?_
 simp
 refine app_data vt_el_26 rfl (by simp) rfl (by simp) (fun c hc=>by obtain⟨b,_,rfl⟩:=List.mem_map.1 hc;rfl) (by simp;omega) (fun _=>flatP_ints') ?_
 simp[enGr]
set_option maxRecDepth 100000 in
theorem l10Map_con (pl ls:List Int) (hp:pl.length≤1048576) (hn:ls.length≤1048576) (hl:litsAt pl.length ls):ConC Try.prog 133 [ints pl,ints ls] (ints (ls.map (plMapV pl))):=by
 refine con_of (by kernel_rfl) Try.func133 rfl rfl rfl ?_
 simp
 refine aw_loopU [true,true,false,false,false,true,true,false,false,false,false,false,false,false,false,false,false,false,false,false,false,false,false,false,false,false,false,false,false,false,false,false] (fun i:Nat=>i≤ls.length) (fun i:Nat=>[(6,.d (.int .i64 i))]) (fun i:Nat=>[(0,.arr 3 true (((ls.take i).map (plMapV pl)).map (e1 eInt)))]) (fun i:Nat=>ls.length - i) 0 ?_ ?_ ?_
 · simp
 · exact⟨[0],by simp⟩
 rintro I S μ hI hS hμ i hi
 by_cases hlt:i<ls.length
 · have hx1:ls[i]? = some ls[i]:=List.getElem?_eq_getElem hlt
   have hli:=hl _ (List.getElem_mem hlt)
   have hnx:(ls.take (i+1)).map (plMapV pl)=(ls.take i).map (plMapV pl)++[plMapV pl ls[i]]:=by rw[take_snoc' hx1,List.map_append];rfl
   have hll:((ls.take i).map (plMapV pl)).length=i:=by simp;omega
   have w2:IntKind.i64.wrap ((i:Int)+1)=(i:Int)+1:=wrap_id (by omega) (by omega)
   have w1:IntKind.i64.wrap ((ls[i]).tdiv 2)=ls[i] / 2:=by rw[Int.tdiv_eq_ediv_of_nonneg hli.1,wrap_id (by omega) (by omega)]
   have hat:=at_read (lv:=pl) (k:=ls[i] / 2) (by omega)
   have w3:=and64_one ls[i]
   have hm:xor64 (atI pl (ls[i] / 2)) (ls[i] % 2)=plMapV pl ls[i]:=rfl
   have hn:¬ ls[i] / 2<0:=by omega
   generalize plMapV pl ls[i]=r at *
   generalize atI pl (ls[i] / 2)=v at *
   generalize ls[i]=l at *
   generalize l / 2=h at *
   generalize (ls.take i).map (plMapV pl)=ms at *
   simp[decide_eq_true hlt,hx1,w1,hat,w3,hm,hn]
   refine⟨by kernel_rfl,?_⟩
   refine app_data vt_el_26 rfl (by simp) rfl (by simp) (by simp) (by first | (simp;done)|(simp;omega)) (by simp[flatP,flatD]) ?_
   simp[w2]
   exact round_of hI hS hμ (i+1) (by omega) (by omega) ⟨[2],by simp only;rw[hnx];simp[e1,eInt]⟩
 · obtain rfl:i=ls.length:=by omega
   rw[List.take_length]
   simp[hlt,decide_eq_false hlt]
theorem hab_iff {a b:Int} (ha:0≤a) (hb:0≤b):a=flip b↔flip a=b:=by
 constructor
 · intro h;rw[h];exact flip_flip hb
 · intro h;rw[←h];exact (flip_flip ha).symm
set_option maxRecDepth 100000 in
set_option maxHeartbeats 2000000 in
theorem sAddAnd_con (x:GrD) (a b:Int) (hok:netOkB x=true) (hA:-2≤a∧a≤1048576) (hB:-2≤b∧b≤1048576):ConC Try.prog 159 [igr x,.d (.int .i64 a),.d (.int .i64 b)] (.tup [igr (sAddL x a b).1,.d (.int .i64 (sAddL x a b).2)]):=by
 obtain⟨⟨n1,n2,n3,n4,n5,n6⟩,-,-,-⟩:=netOk_of hok
 obtain⟨hF,hgl,hNi,hno⟩:=ok_sizes hok
 have hN:=grN_eq x
 have hx:=fitGr_netOk hok
 have hg:=okGr_netOk hok
 have kok:=sNetOk_con x hx hg
 rw[hok] at kok
 have kn:=sNodeCount_con x
 rw[hno] at kn
 have kc:=l08Copy_con x hx
 have kA:=sLit_con a (grN x) (by unfold isI;omega) (by omega)
 have kB:=sLit_con b (grN x) (by unfold isI;omega) (by omega)
 have hS:sAddL x a b=if rng a 0 (2*(grN x:Int) - 1)=true∧rng b 0 (2*(grN x:Int) - 1)=true then (withA x (addN x.2.2.1 a b),addV (firstG x) x.2.2.1 a b) else (x,-1):=rfl
 generalize sAddL x a b=R at *
 refine con_ofD (by kernel_rfl) Try.func159 rfl rfl rfl ?_
 simp[enGr]
 refine call_step (kc) ?_
 simp[enGr]
 refine call_step (kn) ?_
 simp[enGr]
 refine call_step (kok) ?_
 simp[enGr]
 refine call_step (kA) ?_
 simp
 cases hra:rng a 0 (2*(grN x:Int) - 1) with
 | false =>
   rw[if_neg (by simp[hra])] at hS
   subst hS
   simp[hra,enGr]
 | true =>
 simp[hra]
 refine call_step (kB) ?_
 simp
 cases hrb:rng b 0 (2*(grN x:Int) - 1) with
 | false =>
   rw[if_neg (by simp[hrb])] at hS
   subst hS
   simp[hrb,enGr]
 | true =>
 rw[if_pos ⟨hra,hrb⟩] at hS
 have ha:=rng_iff.1 hra
 have hb:=rng_iff.1 hrb
 have hV:addV (firstG x) x.2.2.1 a b=if trivB a b=true then trivV a b else if fndL x.2.2.1 (mnI a b,mxI a b)<x.2.2.1.length then 2*(firstG x+fndL x.2.2.1 (mnI a b,mxI a b)) else if x.2.2.1.length<300 then 2*(firstG x+x.2.2.1.length) else -1:=rfl
 have hM:addM x.2.2.1 a b=(!trivB a b&&decide (¬ fndL x.2.2.1 (mnI a b,mxI a b)<x.2.2.1.length)&&decide (x.2.2.1.length<300)):=rfl
 have hNN:addN x.2.2.1 a b=if addM x.2.2.1 a b=true then x.2.2.1++[(mnI a b,mxI a b)] else x.2.2.1:=rfl
 have hx1:(if b<a then b else a)=mnI a b:=rfl
 have hx2:(if a<b then b else a)=mxI a b:=rfl
 have hT:trivB a b=(decide (a=0)||decide (b=0)||decide (xor64 a 1=b)||decide (a=1)||decide (a=b)||decide (b=1)):=rfl
 have hTv:trivV a b=if a=0∨b=0∨xor64 a 1=b then 0 else if a=1∨a=b then b else a:=rfl
 rw[xor64_one ha.1 (by omega)] at hT hTv
 have hxb:xor64 b 1=flip b:=xor64_one hb.1 (by omega)
 have hfl:=hab_iff ha.1 hb.1
 have hW:withA x x.2.2.1=x:=rfl
 generalize mnI a b=mn at *
 generalize mxI a b=mx at *
 generalize addV (firstG x) x.2.2.1 a b=av at *
 obtain⟨fb,hfb⟩:∃ fb,flip b=fb:=⟨_,rfl⟩
 rw[hfb] at hxb hfl
 generalize flip a=fa at *
 by_cases hTT:trivB a b=true
 · have hm0:addM x.2.2.1 a b=false:=by rw[hM,hTT];rfl
   rw[if_pos hTT] at hV
   rw[hNN,if_neg (by simp[hm0]),hW] at hS
   subst hV hS
   by_cases h0:a=0
   · have hR:trivV a b=0:=by rw[hTv,if_pos (.inl h0)]
     simp[hrb,eq_true h0,show (a==0)=true by simpa using h0,hR,enGr]
   have q0:(a==0)=false:=by simpa using h0
   by_cases h1:b=0
   · have hR:trivV a b=0:=by rw[hTv,if_pos (.inr (.inl h1))]
     simp[hrb,h0,q0,eq_true h1,show (b==0)=true by simpa using h1,hR,enGr]
   have q1:(b==0)=false:=by simpa using h1
   by_cases h2:fa=b
   · have hR:trivV a b=0:=by rw[hTv,if_pos (.inr (.inr h2))]
     simp[hrb,h0,q0,h1,q1,hxb,eq_true (hfl.2 h2),show (a==fb)=true by simpa using hfl.2 h2,hR,enGr]
   have h2':¬ a=fb:=fun e=>h2 (hfl.1 e)
   have q2:(a==fb)=false:=by simpa using h2'
   by_cases h3:a=1
   · have hR:trivV a b=b:=by rw[hTv,if_neg (by omega),if_pos (.inl h3)]
     simp[hrb,h0,q0,h1,q1,hxb,h2',q2,eq_true h3,show (a==1)=true by simpa using h3,hR,enGr]
   have q3:(a==1)=false:=by simpa using h3
   by_cases h4:a=b
   · have hR:trivV a b=b:=by rw[hTv,if_neg (by omega),if_pos (.inr h4)]
     simp[hrb,h0,q0,h1,q1,hxb,h2',q2,h3,q3,eq_true h4,show (a==b)=true by simpa using h4,hR,enGr]
   have q4:(a==b)=false:=by simpa using h4
   have h5:b=1:=by rw[hT] at hTT;simpa [h0,h1,h2,h3,h4] using hTT
   have hR:trivV a b=a:=by rw[hTv,if_neg (by omega),if_neg (by omega)]
   simp[hrb,h0,q0,h1,q1,hxb,h2',q2,h3,q3,h4,q4,eq_true h5,show (b==1)=true by simpa using h5,hR,enGr]
 have hTf:trivB a b=false:=by simpa using hTT
 rw[hTf] at hM hV
 rw[if_neg (by simp)] at hV
 simp only[Bool.not_false,Bool.true_and] at hM
 rw[hT] at hTf
 simp only[Bool.or_eq_false_iff,decide_eq_false_iff_not] at hTf
 obtain⟨⟨⟨⟨⟨h0,h1⟩,h2⟩,h3⟩,h4⟩,h5⟩:=hTf
 have h2':¬ a=fb:=fun e=>h2 (hfl.1 e)
 have q0:(a==0)=false:=by simpa using h0
 have q1:(b==0)=false:=by simpa using h1
 have q2:(a==fb)=false:=by simpa using h2'
 have q3:(a==1)=false:=by simpa using h3
 have q4:(a==b)=false:=by simpa using h4
 have q5:(b==1)=false:=by simpa using h5
 simp[hrb,q0,q1,q2,q3,q4,q5,h0,h1,hxb,h2',h3,h4,h5,hx1,hx2]
 refine aw_loopU [false,false,false,true,false,false,true,false,true,true,true,true,false,false,false,false,false,false,false,false,false,false,false,false,false,false,false,false,false,false,false,false,false,false,false,false,false,false,false,false,false,false,false,false,false,false,false,false,false,false,false,false,false,false,false,false,false,false,false,false,false,false,false,false,false,false,false,false,false,false,false,false,false,false,false,false,false,false,false,false,false,false,false,false,false,false,false,false,false,false,false,false,false,false,false,false,false,false,false] (fun i:Nat=>i≤x.2.2.1.length∧∀ j:Nat,j<i→x.2.2.1[j]?≠some (mn,mx)) (fun i:Nat=>[(11,.d (.int .i64 i))]) (fun i:Nat=>[]) (fun i:Nat=>x.2.2.1.length - i) 0 ?_ ?_ ?_
 · exact⟨Nat.zero_le _,fun j h=>by omega⟩
 · exact⟨[0,1,2,3,4,5,6],by simp⟩
 rintro J S μ hJ hS' hμ i ⟨hi,hpre⟩
 by_cases hlt:i<x.2.2.1.length
 · have hy:x.2.2.1[i]? = some x.2.2.1[i]:=List.getElem?_eq_getElem hlt
   have w1:IntKind.i64.wrap ((i:Int)+1)=(i:Int)+1:=wrap_id (by omega) (by omega)
   generalize x.2.2.1[i]=y at *
   have hL:(enAnd y).length=2:=rfl
   by_cases he:y=(mn,mx)
   · subst he
     have hf:fndL x.2.2.1 (mn,mx)=i:=fnd_at hy hpre
     rw[hf,if_pos hlt] at hV
     rw[hf,decide_eq_false (by simpa using hlt)] at hM
     rw[hNN,if_neg (by simp[hM]),hW,hV] at hS
     subst hS
     have w2:IntKind.i64.wrap (1+x.1+(x.2.1.length:Int)+(i:Int))=(firstG x:Int)+i:=by rw[wrap_id (by omega) (by omega)];omega
     have w3:IntKind.i64.wrap (2*((firstG x:Int)+(i:Int)))=2*((firstG x:Int)+i):=wrap_id (by omega) (by omega)
     simp[decide_eq_true hlt]
     refine drawD_of 7 (by kernel_rfl) ?_
     simp[hy,hL,enAnd]
     refine drawE_of [(6,[3,4,5]),(7,[])] (by kernel_rfl) ?_
     simp[enGr]
     refine call_step (sFirst_con x ⟨n1,n2⟩ n3) ?_
     simp[enGr,w2,w3]
   · have he2:(y.1==mn&&y.2==mx)=false:=by
      cases hc:(y.1==mn&&y.2==mx) with
      | false=>rfl
      | true=>simp only[Bool.and_eq_true,beq_iff_eq] at hc;exact absurd (Prod.ext hc.1 hc.2) he
     simp[decide_eq_true hlt]
     refine drawD_of 7 (by kernel_rfl) ?_
     simp[hy,hL,enAnd,he2,w1]
     exact round_of hJ hS' hμ (i+1) ⟨by omega,fun j hj=>by
      by_cases hji:j=i
      · subst hji;rw[hy];exact fun e=>he (Option.some.inj e)
      · exact hpre j (by omega)⟩ (by omega) ⟨[0,1,2,3,4,5,6],by simp⟩
 obtain rfl:i=x.2.2.1.length:=by omega
 have hf:¬ fndL x.2.2.1 (mn,mx)<x.2.2.1.length:=by rw[fnd_none hpre];omega
 rw[if_neg hf] at hV
 by_cases h6:x.2.2.1.length=300
 · rw[if_neg (by omega)] at hV
   rw[decide_eq_true hf,decide_eq_false (by omega)] at hM
   rw[hNN,if_neg (by simp[hM]),hW,hV] at hS
   subst hS
   simp[decide_eq_false hlt,hlt,show ((x.2.2.1.length:Int)==300)=true by simpa using (by omega:(x.2.2.1.length:Int)=300),show ((x.2.2.1.length:Int)=300) by omega,enGr]
 · rw[if_pos (by omega)] at hV
   rw[decide_eq_true hf,decide_eq_true (show x.2.2.1.length<300 by omega)] at hM
   rw[hNN,if_pos (by simpa using hM),hV] at hS
   subst hS
   have w3:IntKind.i64.wrap (2*(grN x:Int))=2*((firstG x:Int)+x.2.2.1.length):=by rw[wrap_id (by omega) (by omega)];omega
   simp[decide_eq_false hlt,hlt,show ((x.2.2.1.length:Int)==300)=false by simpa using (by omega:¬ (x.2.2.1.length:Int)=300),show ¬ ((x.2.2.1.length:Int)=300) by omega]
   refine app_data vt_el_25 rfl (by simp) rfl (by simp) (by simp) (by first | (simp;done)|(simp;omega)) (by simp[flatP,flatD]) ?_
   simp[w3,enGr,withA,enAnd,e2,eInt]
open Go.RowKit Go.ChangeShapes Go.WideShapes
abbrev dgr (x:GrD):V:=.agg [.d (.int .i64 x.1),.d (eSl 31 enSeq x.2.1),.d (eSl 60 enAnd x.2.2.1),.d (eSl 3 (e1 eInt) x.2.2.2)]
abbrev dgrV (x:GrD):Slot:=.var 28 [.d (.int .i64 x.1),.d (eSl 31 enSeq x.2.1),.d (eSl 60 enAnd x.2.2.1),.d (eSl 3 (e1 eInt) x.2.2.2)]
def iaS (i:Nat) (m:GrD) (to:List Int) (sl:List Slot):List Slot:=if i=0 then sl else (sl.set 0 .dead).set 1 (dgrV m)++[.arr 3 true (to.map (e1 eInt))]
def iaV (i:Nat):V:=if i=0 then .ref 0 else .ref 4
theorem impR_false {x:GrD} {fa skip inst:Int} {to0:List Int} {an0:List AndD} {i:Nat} (h:(impR x fa skip inst to0 an0 i).2.2=false):∀ d,impR x fa skip inst to0 an0 (i+d)=impR x fa skip inst to0 an0 i
 | 0=>rfl
 | d+1=>by
   have ih:=impR_false h d
   rw[←Nat.add_assoc,impR,if_pos (by rw[ih];exact h),ih]
set_option maxRecDepth 100000 in
set_option maxHeartbeats 4000000 in
theorem l15Ands_conT (m n:GrD) (to0:List Int) (skip inst:Int) (c:Bool) (hm:netOkB m=true) (hn:netOkB n=true) (hI:ImpOk (firstG m) (firstG n) (to0,m.2.2.1,true)) (hi:0≤inst∧inst<2*(firstG m:Int))
 (hc:c=decide ((impR n (firstG m) skip inst to0 m.2.2.1 n.2.2.1.length).1.length≠to0.length)) :
 ConT Try.prog 158 [dgr m,.ref 0,dgr n,.d (.int .i64 skip),.d (.int .i64 inst)] [.arr 3 true (to0.map (e1 eInt))]
  (.tup [dgr (withA m (impR n (firstG m) skip inst to0 m.2.2.1 n.2.2.1.length).2.1),.ref (if c=true then 1 else 0),.d (.bool (impR n (firstG m) skip inst to0 m.2.2.1 n.2.2.1.length).2.2)])
  (if c=true then [.dead,.arr 3 true ((impR n (firstG m) skip inst to0 m.2.2.1 n.2.2.1.length).1.map (e1 eInt))] else [.arr 3 true (to0.map (e1 eInt))]):=by
 obtain⟨⟨n1,n2,n3,n4,n5,n6⟩,-,-,-⟩:=netOk_of hn
 obtain⟨⟨m1,m2,m3,m4,m5,m6⟩,-,-,-⟩:=netOk_of hm
 obtain⟨hF,hgl,hNi,hno⟩:=ok_sizes hn
 obtain⟨hFm,hglm,hNim,hnom⟩:=ok_sizes hm
 have hN:=grN_eq n
 have hNm:=grN_eq m
 have hII:=fun i hi'=>impR_ok hn (fa:=firstG m) (skip:=skip) (inst:=inst) (by omega) hi hI i hi'
 generalize hR:impR n (firstG m) skip inst to0 m.2.2.1 n.2.2.1.length=R at *
 refine conT_ofD (by kernel_rfl) Try.func158 rfl rfl rfl (by cases c<;>simp[laters,Later]) (by simp[lives,Slot.live]) ?_
 simp
 refine aw_loopN [false,true,false,true,true,true,false,true,false,false,true,false,false,true,false,false,false,false,false,false,false,false,false,false,false,false,false,false,false,false,false,false,false,false,false,false,false,false,false,false,false,false,false,false,false,false,false,false,false,false,false,false,false,false,false,false,false,false,false,false,false,false,false,false,false,false,false,false] (fun i:Nat=>i≤n.2.2.1.length∧(impR n (firstG m) skip inst to0 m.2.2.1 i).2.2=true) (fun i:Nat=>[(1,iaV i),(13,.d (.int .i64 i))]) (fun i:Nat=>iaS i (withA m (impR n (firstG m) skip inst to0 m.2.2.1 i).2.1) (impR n (firstG m) skip inst to0 m.2.2.1 i).1) (fun i:Nat=>n.2.2.1.length - i) 0 ?_ ?_ ?_
 · exact⟨Nat.zero_le _,rfl⟩
 · exact⟨[0,1,2,3],by simp[iaS,iaV]⟩
 have hto0:to0.length=firstG n:=hI.len rfl
 rintro I S μ hJ hS hμ i ⟨hile,hio⟩
 obtain⟨q1,q2⟩:=hII i hile
 obtain⟨⟨to,an,bb⟩,hst⟩:∃ s,impR n (firstG m) skip inst to0 m.2.2.1 i=s:=⟨_,rfl⟩
 rw[hst] at hio q1 q2
 simp only at hio q2
 subst hio
 have hl:=q1.len rfl
 have hpl:=q1.pl
 have ha3:=q1.an
 have han:=q1.ok
 simp only at hl hpl ha3 han
 have hokA:=netOk_withA hm q2 ha3 han
 rw[hst]
 by_cases hlt:i<n.2.2.1.length
 case neg =>
  obtain rfl:i=n.2.2.1.length:=by omega
  rw[hst] at hR
  subst hR
  simp only at hc
  by_cases hi0:n.2.2.1.length=0
  · obtain rfl:c=false:=by rw[hc];simp;omega
    rw[hi0] at hst
    have e0:(to0,m.2.2.1,true)=(to,an,true):=hst
    simp only[Prod.mk.injEq] at e0
    obtain⟨rfl,rfl,-⟩:=e0
    simp[iaS,iaV,hi0,withA]
    exact⟨[0],by simp⟩
  · obtain rfl:c=true:=by rw[hc];simp;omega
    simp[iaS,iaV,hi0,withA,decide_eq_false hlt,hlt]
    exact⟨[0,4],by simp⟩
 obtain⟨hA,a1,a2,a3,a4,a5,a6⟩:=and_at hn (v:=firstG n+i) (by omega) (by omega)
 rw[Nat.add_sub_cancel_left] at hA
 have hstp:impR n (firstG m) skip inst to0 m.2.2.1 (i+1)=if (i:Int)=skip then (to++[inst],an,true) else if addV (firstG m) an (plMapV to (andAt n (firstG n+i)).1) (plMapV to (andAt n (firstG n+i)).2)<0 then (to,an,false) else (to++[addV (firstG m) an (plMapV to (andAt n (firstG n+i)).1) (plMapV to (andAt n (firstG n+i)).2)],addN an (plMapV to (andAt n (firstG n+i)).1) (plMapV to (andAt n (firstG n+i)).2),true):=by
  rw[impR,hst];simp only[Bool.true_eq_false,if_false]
 have kM:=l10Map_con to [(andAt n (firstG n+i)).1,(andAt n (firstG n+i)).2] (by omega) (by simp) (fun l hl'=>by
  simp only[List.mem_cons,List.not_mem_nil,or_false] at hl'
  rcases hl' with rfl|rfl<;>omega)
 have r1:=mapV_rng (l:=(andAt n (firstG n+i)).1) (plIn_at hpl (by omega) ((andAt n (firstG n+i)).1 / 2)) (by omega)
 have r2:=mapV_rng (l:=(andAt n (firstG n+i)).2) (plIn_at hpl (by omega) ((andAt n (firstG n+i)).2 / 2)) (by omega)
 generalize andAt n (firstG n+i)=A at *
 have hL:(enAnd A).length=2:=rfl
 simp only[List.map_cons,List.map_nil] at kM
 generalize plMapV to A.1=x1 at *
 generalize plMapV to A.2=x2 at *
 have kD:=sAddAnd_con (withA m an) x1 x2 hokA (by omega) (by omega)
 rw[sAddL_ok (by rw[grN_withA];omega) (by rw[grN_withA];omega)] at kD
 have e1':withA (withA m an) (addN (withA m an).2.2.1 x1 x2)=withA m (addN an x1 x2):=rfl
 have e2':addV (firstG (withA m an)) (withA m an).2.2.1 x1 x2=addV (firstG m) an x1 x2:=rfl
 rw[e1',e2'] at kD
 have w1:IntKind.i64.wrap ((i:Int)+1)=(i:Int)+1:=wrap_id (by omega) (by omega)
 generalize addV (firstG m) an x1 x2=v at *
 generalize addN an x1 x2=an2 at *
 by_cases hi0:i=0
 · subst hi0
   have e0:(to0,m.2.2.1,true)=(to,an,true):=hst
   simp only[Prod.mk.injEq] at e0
   obtain⟨rfl,rfl,-⟩:=e0
   by_cases hsk:((0:Nat):Int)=skip
   · rw[if_pos hsk] at hstp
     subst hsk
     simp[iaS,iaV,hlt,decide_eq_true hlt]
     refine app_data vt_el_26 rfl (by simp) rfl (by simp) (by simp) (by first | (simp;done)|(simp;omega)) (by simp[flatP,flatD]) ?_
     simp[w1,show IntKind.i64.wrap 1=1 from rfl]
     exact round_of hJ hS hμ 1 ⟨by omega,by rw[show (1:Nat)=0+1 from rfl,hstp]⟩ (by omega) ⟨[0,1,2,3,5],by rw[show (1:Nat)=0+1 from rfl,hstp];simp[iaS,iaV,withA,e1,eInt]⟩
   rw[if_neg hsk] at hstp
   simp[iaS,iaV,hlt,decide_eq_true hlt,show ¬ (0:Int)=skip by simpa using hsk,show ((0:Int)==skip)=false by simpa using hsk]
   refine drawD_of 16 (by kernel_rfl) ?_
   simp[hA,hL,enAnd]
   refine call_step (kM) ?_
   simp
   refine drawE_of [(12,[10]),(13,[])] (by kernel_rfl) ?_
   simp
   refine call_step (kD) ?_
   simp[withA,enGr]
   by_cases hv:v<0
   · rw[if_pos hv] at hstp
     have hRR:=impR_false (show (impR n (firstG m) skip inst to0 m.2.2.1 (0+1)).2.2=false by rw[hstp]) (n.2.2.1.length - 1)
     rw[show 0+1+(n.2.2.1.length - 1)=n.2.2.1.length by omega,hR,hstp] at hRR
     subst hRR
     obtain rfl:c=false:=by rw[hc];simp
     simp[hv,decide_eq_true hv,show ¬ 0≤v by omega,withA]
     exact⟨[0],by simp⟩
   rw[if_neg hv] at hstp
   simp[hv,decide_eq_false hv,show 0≤v by omega]
   refine app_data vt_el_26 rfl (by simp) rfl (by simp) (by simp) (by first | (simp;done)|(simp;omega)) (by simp[flatP,flatD]) ?_
   simp[w1,show IntKind.i64.wrap 1=1 from rfl]
   exact round_of hJ hS hμ 1 ⟨by omega,by rw[show (1:Nat)=0+1 from rfl,hstp]⟩ (by omega) ⟨[0,1,2,3,11],by rw[show (1:Nat)=0+1 from rfl,hstp];simp[iaS,iaV,withA,e1,eInt]⟩
 · by_cases hsk:(i:Int)=skip
   · rw[if_pos hsk] at hstp
     subst hsk
     simp[iaS,iaV,hi0,decide_eq_true hlt]
     refine app_data vt_el_26 rfl (by simp) rfl (by simp) (by simp) (by first | (simp;done)|(simp;omega)) (by simp[flatP,flatD]) ?_
     simp[w1]
     exact round_of hJ hS hμ (i+1) ⟨by omega,by rw[hstp]⟩ (by omega) ⟨[0,1,2,3,6],by simp[hstp,iaS,iaV,withA,e1,eInt]⟩
   rw[if_neg hsk] at hstp
   simp[iaS,iaV,hi0,decide_eq_true hlt,hsk,show ((i:Int)==skip)=false by simpa using hsk]
   refine drawD_of 16 (by kernel_rfl) ?_
   simp[hA,hL,enAnd]
   refine call_step (kM) ?_
   simp
   refine drawE_of [(12,[10]),(13,[])] (by kernel_rfl) ?_
   simp
   refine call_step (kD) ?_
   simp[withA,enGr]
   by_cases hv:v<0
   · rw[if_pos hv] at hstp
     have hRR:=impR_false (show (impR n (firstG m) skip inst to0 m.2.2.1 (i+1)).2.2=false by rw[hstp]) (n.2.2.1.length - (i+1))
     rw[show i+1+(n.2.2.1.length - (i+1))=n.2.2.1.length by omega,hR,hstp] at hRR
     subst hRR
     obtain rfl:c=true:=by rw[hc];simp;omega
     simp[hv,decide_eq_true hv,show ¬ 0≤v by omega,withA]
     exact⟨[0,4],by simp⟩
   rw[if_neg hv] at hstp
   simp[hv,decide_eq_false hv,show 0≤v by omega]
   refine app_data vt_el_26 rfl (by simp) rfl (by simp) (by simp) (by first | (simp;done)|(simp;omega)) (by simp[flatP,flatD]) ?_
   simp[w1]
   exact round_of hJ hS hμ (i+1) ⟨by omega,by rw[hstp]⟩ (by omega) ⟨[0,1,2,3,12],by simp[hstp,iaS,iaV,withA,e1,eInt]⟩
end Go.Proofs.Ytnjedabjbeipeaa
namespace Go.Proofs.Ytnjedabjbeipeaa
open Go.RowKit Go.ChangeShapes Go.WideShapes
set_option linter.unusedVariables false
set_option linter.unusedSimpArgs false
attribute [local simp ↓] condG_true condG_false condB_true condB_false
attribute [local simp] AWp_skip AWp_region_t AWp_region_d AWp_region_f still_mk AWp_seq AWp_cond condV_bool condB AWp_block AWp_exit AWp_ret
attribute [local simp] AOps_nil AOp_move AOp_assign AOp_pick AOp_binOp AOp_unOp AOp_convert AOp_len AOp_max AOp_min AOp_indexAddr AOp_load
attribute [local simp] AOp_fieldAddr AOp_field AOp_extract AOp_nilCheck AOp_build AOp_alloc AOp_box AOp_call AOp_store AOp_append AOp_buildSlice nextB_some
attribute [local simp] nextB_none adoptO adoptC AOp_makeSlice AOp_slice AOp_makeFunc AOp_guard guardD_some guardG_bool guardG_undef nextO_some nextS_some
attribute [local simp] nextZ_some nextL_some nextM_some nextT_some sliceO sliceL sliceT partO partV boundV funcO pickO
attribute [local simp] convO lenO maxO minO idxO extO nilO buildO litO litC makeO chunks
attribute [local simp] fillV placeOf thenA inBlockA St.get St.put St.eval ofCell evalT abin_add abin_sub abin_mul
attribute [local simp] abin_quo abin_rem abin_and abin_or abin_xor abin_andNot abin_shl abin_shr abin_shlu abin_eql abin_eqp abin_neq
attribute [local simp] abin_lss abin_leq abin_gtr abin_geq abin_eqlb abin_neqb aun pickV lenV intOf? indexV takeD
attribute [local simp] takeV loadV fieldAddrV fieldV ofX presD presDs pres presAll cellsV V.cell storeV
attribute [local simp] freezeC putAt kill takeC plains plainV scalarV nat_neg keepT sets eSl e1
attribute [local simp] e2 e3 e4 eInt eBool abinS_d abinS_agg abinS nilEq abin_eqb AOp_makeMap AOp_lookup
attribute [local simp] AOp_mapUpdate lookG_some updG_some mapV kyOf vlOf lookV vlV buildA afterCall inst inst1
attribute [local simp] inst1s instD instDs RetA resVs resV gives give1 give1s Le isPin leSlots
attribute [local simp] leS leTmps leV le0 le0s ren ren0 renS ren0s frame enterT afterT_some
attribute [local simp] afterC_some lives Slot.live arrsOk viewV view0 renT rens renSs setAll List.range'_succ RetT
attribute [local simp] RetW joinV leT AOpsE_nil AOpsE_cons AOpsT_nil AOpsT_cons isCallT isFnO callOf callVC_fn condC_true
attribute [local simp] condC_false beginT_mk beginX_mk AOpsX_zero thenT_mk pickE pickT isT loose namesOf namesV names1
attribute [local simp] names0 stableN sameAt Op.operands Call.operands
end Go.Proofs.Ytnjedabjbeipeaa
