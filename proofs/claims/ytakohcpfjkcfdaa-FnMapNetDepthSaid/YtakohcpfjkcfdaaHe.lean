/-
  Sending one unit along a way, by the program. By abstract walks.
  Conditions: those typed in each theorem.
-/
import Derived.Test.YtakohcpfjkcfdaaHd
namespace Go.Proofs.Ytakohcpfjkcfdaa
open Go.RowKit Go.ChangeShapes Go.WideShapes
set_option linter.unusedVariables false
set_option linter.unusedSimpArgs false
attribute [local simp ↓] condG_true condG_false condB_true condB_false
attribute [local simp] AWp_skip AWp_region_t AWp_region_d AWp_region_f still_mk AWp_seq AWp_cond condV_bool condB AWp_block AWp_exit AWp_ret
attribute [local simp] AOps_nil AOp_move AOp_assign AOp_pick AOp_binOp AOp_unOp AOp_convert AOp_len AOp_max AOp_min AOp_indexAddr AOp_load
attribute [local simp] AOp_fieldAddr AOp_field AOp_extract AOp_nilCheck AOp_build AOp_alloc AOp_box AOp_call AOp_store AOp_append AOp_buildSlice nextB_some
attribute [local simp] nextB_none adoptO adoptC AOp_makeSlice AOp_slice AOp_makeFunc AOp_guard guardD_some guardG_bool guardG_undef nextO_some nextS_some
attribute [local simp] nextZ_some nextL_some nextM_some nextT_some sliceO sliceL sliceT partO partV boundV funcO pickO
attribute [local simp] convO lenO maxO minO idxO extO nilO buildO litO litC makeO chunks
attribute [local simp] fillV placeOf thenA inBlockA St.get St.put St.eval ofCell evalT abin_add abin_sub abin_mul
attribute [local simp] abin_quo abin_rem abin_and abin_or abin_xor abin_andNot abin_shl abin_shr abin_shlu abin_eql abin_eqp abin_neq
attribute [local simp] abin_lss abin_leq abin_gtr abin_geq abin_eqlb abin_neqb aun pickV lenV intOf? indexV takeD
attribute [local simp] takeV loadV fieldAddrV fieldV ofX presD presDs pres presAll cellsV V.cell storeV
attribute [local simp] freezeC putAt kill takeC plains plainV scalarV nat_neg keepT sets eSl e1
attribute [local simp] e2 e3 e4 eInt eBool abinS_d abinS_agg abinS nilEq abin_eqb AOp_makeMap AOp_lookup
attribute [local simp] AOp_mapUpdate lookG_some updG_some mapV kyOf vlOf lookV vlV buildA afterCall inst inst1
attribute [local simp] inst1s instD instDs RetA resVs resV gives give1 give1s Le isPin leSlots
attribute [local simp] leS leTmps leV le0 le0s ren ren0 renS ren0s frame enterT afterT_some
attribute [local simp] afterC_some lives Slot.live arrsOk viewV view0 renT rens renSs setAll List.range'_succ RetT
attribute [local simp] RetW joinV leT AOpsE_nil AOpsE_cons AOpsT_nil AOpsT_cons isCallT isFnO callOf callVC_fn condC_true
attribute [local simp] condC_false beginT_mk thenT_mk pickE pickT isT loose namesOf namesV names1 names0 stableN
attribute [local simp] sameAt Op.operands Call.operands
structure StB (B:Int) (N:Nat) (s:StI):Prop where
 len:s.1.length=N
 ins:∀ k,-B≤getZ s.1 k∧getZ s.1 k≤B
 ed:∀ c p,-B≤edM s.2 c p∧edM s.2 c p≤B
 nd:(s.2.map (·.1)).Nodup
theorem StB.mono {B C:Int} {N:Nat} {s:StI} (h:StB B N s) (hBC:B≤C):StB C N s :=
 ⟨h.len,fun k=>by have:=h.ins k;omega,fun c p=>by have:=h.ed c p;omega,h.nd⟩
theorem StB.step {B:Int} {N x y:Nat} {s:StI} (h:StB B N s) (hx:x / 2<N) (hB:0≤B):StB (B+1) N (stepI x y s):=by
 have hm:=h.mono (C:=B+1) (by omega)
 have hset:∀ (d:Int),(d=1∨d=-1)→StB (B+1) N (s.1.set (x / 2) (getZ s.1 (x / 2)+d),s.2):=fun d hd=>by
  refine⟨by simp[h.len],fun k=>?_,hm.ed,h.nd⟩
  have h1:=h.ins (x / 2)
  have h2:=h.ins k
  show _≤getZ (s.1.set (x / 2) _) k∧getZ (s.1.set (x / 2) _) k≤_
  rw[getZ_set (by rw[h.len];exact hx)]
  split<;>omega
 have hbump:∀ (c p:Nat) (d:Int),(d=1∨d=-1)→StB (B+1) N (s.1,bumpM s.2 c p d):=fun c p d hd=>by
  refine⟨h.len,hm.ins,fun c' p'=>?_,bumpM_nodup h.nd⟩
  have h1:=h.ed c p
  have h2:=h.ed c' p'
  show _≤edM (bumpM s.2 c p d) c' p'∧edM (bumpM s.2 c p d) c' p'≤_
  rw[edM_bump]
  split<;>omega
 unfold stepI
 split
 · split
   · exact hset 1 (.inl rfl)
   · exact hset (-1) (.inr rfl)
 · split
   · exact hbump _ _ 1 (.inl rfl)
   · exact hbump _ _ (-1) (.inr rfl)
theorem path_back {next:Nat→List Nat} {M v:Nat} {es:Es} (h:InvG next M (esI v) es) {i x:Nat} {z:Int} (hi:es[i]? = some (x,z)) :
 x<M∧((z=(x:Int)∧i=0)∨∃ (j y:Nat) (z':Int),j<i∧es[j]? = some (y,z')∧z=(y:Int)∧y<M∧z≠(x:Int)):=by
 refine⟨h.lt _ (keyE_mem hi),?_⟩
 by_cases h0:i=0
 · subst h0
   have:=h.pre 0 (by simp[esI])
   rw[hi] at this
   simp[esI] at this
   exact .inl ⟨by rw[this.1,this.2];omega,rfl⟩
 · obtain⟨j,r,h1,h2,h3,h4⟩:=h.tail i _ hi (by simp[esI];omega)
   obtain⟨y,z'⟩:=r
   simp only at h3 h4
   refine .inr ⟨j,y,z',h1,h2,h3,h.lt _ (keyE_mem h2),fun e=>?_⟩
   have:x=y:=by omega
   subst this
   have:=keyE_inj h.nd hi h2 rfl
   omega
theorem srcE_pos {next:Nat→List Nat} {M:Nat} {es0 es:Es} (h:InvG next M es0 es) {i x:Nat} {z:Int} (hi:es[i]? = some (x,z)):srcE es x=some z:=srcE_at h.nd hi
theorem kyT_up {k:Nat}:kyT (2*k)=((k:Int),.inl true):=by
 unfold kyT
 rw[decide_eq_true (by omega),show 2*k / 2=k by omega]
theorem kyT_dn {k:Nat}:kyT (2*k+1)=((k:Int),.inl false):=by
 unfold kyT
 rw[decide_eq_false (by omega),show (2*k+1) / 2=k by omega]
theorem vlT_up {k:Nat}:vlT ((2*k:Nat):Int)=((k:Int),some true):=by
 unfold vlT
 rw[decide_eq_true (by omega),show ((2*k:Nat):Int) / 2=k by omega]
theorem vlT_dn {k:Nat}:vlT ((2*k+1:Nat):Int)=((k:Int),some false):=by
 unfold vlT
 rw[decide_eq_false (by omega),show ((2*k+1:Nat):Int) / 2=k by omega]
theorem path_stb {next:Nat→List Nat} {N v:Nat} {es:Es} (h:InvG next (2*N) (esI v) es):∀ (f:Nat) (i x:Nat) (z:Int) (s:StI) (B:Int),es[i]? = some (x,z)→0≤B→StB B N s→StB (B+f) N (pathI es f x s)
 | 0,i,x,z,s,B,hi,hB,hs=>hs.mono (by omega)
 | f+1,i,x,z,s,B,hi,hB,hs=>by
   unfold pathI
   rw[srcE_pos h hi]
   obtain⟨p1,p2⟩:=path_back h hi
   rcases p2 with ⟨e,-⟩|⟨j,y,z',q1,q2,q3,q4,q5⟩
   · simp only[e,if_true]
     exact hs.mono (by omega)
   · simp only[q5,if_false]
     have ht:z.toNat=y:=by omega
     rw[ht]
     have:=path_stb h f j y z' (stepI x y s) (B+1) q2 (by omega) (hs.step (by omega) hB)
     exact this.mono (by omega)
abbrev vSt (w:Nat):List V:=[.d (.int .i64 ((w / 2:Nat):Int)),.d (.bool (decide (w % 2=0)))]
abbrev slMp (es:Es):Slot:=.blk (.mp 79 (mpE es))
theorem vSt_up {k:Nat}:vSt (2*k)=[.d (.int .i64 (k:Int)),.d (.bool true)]:=by
 have e:2*k / 2=k:=by omega
 unfold vSt
 rw[e,decide_eq_true (by omega)]
theorem vSt_dn {k:Nat}:vSt (2*k+1)=[.d (.int .i64 (k:Int)),.d (.bool false)]:=by
 have e:(2*k+1) / 2=k:=by omega
 unfold vSt
 rw[e,decide_eq_false (by omega)]
set_option maxRecDepth 100000 in
set_option maxHeartbeats 4000000 in
theorem push_con (x:GrD) (v:Nat) (cn fr:List Bool) (s:StI) (es:Es) (next:Nat→List Nat) (w i0:Nat) (z0:Int) (B:Int) (hx:fitGr 1048576 x) (hok:netOkB x=true) (hI:InvG next (2*grN x) (esI v) es) (hi:es[i0]? = some (w,z0)) (hB:0≤B∧B≤1000000) (hs:StB B (grN x) s) :
 ConT Try.prog 60 [.ptr 0 0,.ref 5,.agg (vSt w)] (slF x v cn fr s++[slMp es]) (.tup []) (slF x v cn fr (pathI es (2*grN x+1) w s)++[slMp es]):=by
 obtain⟨⟨n1,n2,n3,n4,n5,n6⟩,-,-,-⟩:=netOk_of hok
 have hFF:(firstG x:Int)=1+x.1+x.2.1.length:=by unfold firstG;omega
 have hNN:=grN_eq x
 have hNs:grN x≤400:=by unfold firstG at hNN;omega
 have hel:=hI.len
 have hi0:=(List.getElem?_eq_some_iff.1 hi).1
 have hfin:=path_stb hI (2*grN x+1) i0 w z0 s B hi hB.1 hs
 obtain⟨s',hs'⟩:∃ s',pathI es (2*grN x+1) w s=s':=⟨_,rfl⟩
 rw[hs'] at hfin ⊢
 have hlen:s'.1.length=s.1.length:=by rw[hfin.len,hs.len]
 refine conT_ofD (by kernel_rfl) Try.func60 rfl rfl rfl (by simp[laters,Later,hlen]) (by simp[lives,Slot.live]) ?_
 simp
 refine aw_loopN [true,true,false,false,false,false,true,false,false,false,false,false,false,false,false,false,false,false,false,false,false,false,false,false,false,false,false,false,false,false,false,false,false,false,false,false,false,false,false,false,false,false,false,false,false,false,false,false,false,false,false,false,false,false,false,false,false,false,false,false,false,false,false,false,false,false,false,false,false,false,false,false,false,false,false,false,false,false,false,false,false,false] (fun i:Nat×Nat×Nat×StI=>(∃ z,es[i.1]? = some (i.2.2.1,z))∧i.1+1≤i.2.1∧i.2.1≤2*grN x+1∧StB (B+(2*grN x+1 - i.2.1:Nat)) (grN x) i.2.2.2∧pathI es i.2.1 i.2.2.1 i.2.2.2=s') (fun i:Nat×Nat×Nat×StI=>[(6,.ptr 6 0)]) (fun i:Nat×Nat×Nat×StI=>fun sl=>slF x v cn fr i.2.2.2++[slMp es,.var 84 (vSt i.2.2.1)]) (fun i:Nat×Nat×Nat×StI=>i.2.1) (i0,2*grN x+1,w,s) ?_ ?_ ?_
 · exact⟨⟨z0,hi⟩,by simp only;omega,Nat.le_refl _,hs.mono (by simp),hs'⟩
 · exact⟨[0,1,2,3,4,5,7],by simp⟩
 rintro I S μ hI1 hS1 hμ1 ⟨i,f,t,st⟩ ⟨⟨z,hit⟩,hif,hf,hst,hpath⟩
 simp only at hit hif hf hst hpath
 obtain⟨f,rfl⟩:∃ g,f=g+1:=⟨f - 1,by omega⟩
 unfold pathI at hpath
 rw[srcE_pos hI hit] at hpath
 obtain⟨p1,p2⟩:=path_back hI hit
 have hM:getM (mpE es) (kyT t)=some (vlT z):=by rw[mpE_get,srcE_pos hI hit];rfl
 have hkt:=key_T (t:=t) (by omega)
 rcases p2 with ⟨hz,-⟩|⟨j,y,z',q1,q2,q3,q4,q5⟩
 · subst hz
   simp only[if_true] at hpath
   subst hpath
   obtain⟨k,rfl|rfl⟩:∃ k,t=2*k∨t=2*k+1:=⟨t / 2,by omega⟩
   · rw[kyT_up] at hM hkt
     rw[vlT_up] at hM
     simp[vSt_up,hM,hkt]
     exact⟨[0,1,2,3,4,5],by simp⟩
   · rw[kyT_dn] at hM hkt
     rw[vlT_dn] at hM
     simp[vSt_dn,hM,hkt]
     exact⟨[0,1,2,3,4,5],by simp⟩
 · subst q3
   simp only[q5,if_false,Int.toNat_natCast] at hpath
   have hnx:=hst.step (x:=t) (y:=y) (by omega) (by omega)
   have hnx':StB (B+(2*grN x+1 - f:Nat)) (grN x) (stepI t y st):=hnx.mono (by omega)
   have hne:t≠y:=fun e=>q5 (by rw[e])
   have hlt1:=hst.len
   obtain⟨hins,hed,hnd⟩:_∧_∧_:=⟨hst.ins,hst.ed,hst.nd⟩
   obtain⟨c,b,hc,hb⟩:∃ c b,c=y / 2∧b=decide (y % 2=0):=⟨_,_,rfl,rfl⟩
   have hvl:vlT (y:Int)=((c:Int),some b):=by
    unfold vlT
    rw[hc,hb,show ((y:Int) / 2)=((y / 2:Nat):Int) by omega]
    congr 2
    exact decide_eq_decide.2 (by omega)
   have hvy:vSt y=[.d (.int .i64 (c:Int)),.d (.bool b)]:=by unfold vSt;rw[hc,hb]
   rw[hvl] at hM
   have hst2:∀ k,t / 2=k→stepI t y st=if k=c then (if b=true then (st.1.set k (getZ st.1 k+1),st.2) else (st.1.set k (getZ st.1 k - 1),st.2)) else if t % 2=0 then (st.1,bumpM st.2 k c 1) else (st.1,bumpM st.2 c k (-1)):=fun k hk=>by
    unfold stepI
    rw[hk,←hc,hb]
    by_cases h0:y % 2=0
    · simp[h0]
    · simp[h0]
   obtain⟨k,hk2⟩:∃ k,t / 2=k:=⟨_,rfl⟩
   have hst3:=hst2 k hk2
   have hkN:k<grN x:=by omega
   have hcN:c<grN x:=by omega
   have hik:st.1[k]? = some (getZ st.1 k):=by unfold getZ;rw[List.getElem?_eq_getElem (by rw[hlt1];exact hkN)];rfl
   have hzk:=hins k
   have w1:IntKind.i64.wrap (getZ st.1 k+1)=getZ st.1 k+1:=wrap_id (by omega) (by omega)
   have w2:IntKind.i64.wrap (getZ st.1 k - 1)=getZ st.1 k - 1:=wrap_id (by omega) (by omega)
   by_cases hkc:k=c
   · subst hkc
     rw[if_pos rfl] at hst3
     cases b with
     | true =>
       obtain rfl:t=2*k+1:=by simp at hb;omega
       rw[kyT_dn] at hM hkt
       rw[if_pos rfl] at hst3
       rw[hst3] at hpath hnx'
       simp[vSt_dn,hM,hkt]
       refine drawD_of 10 (by kernel_rfl) ?_
       simp[hik,w1]
       refine round_of hI1 hS1 hμ1 (j,f,y,(st.1.set k (getZ st.1 k+1),st.2)) ⟨⟨z',q2⟩,by simp only;omega,by simp only;omega,hnx',hpath⟩ (by simp only;omega) ?_
       exact⟨[0,1,2,3,4,5,8],by simp[hvy,List.map_set,e1,eInt]⟩
     | false =>
       obtain rfl:t=2*k:=by simp at hb;omega
       rw[kyT_up] at hM hkt
       rw[if_neg (by simp)] at hst3
       rw[hst3] at hpath hnx'
       simp[vSt_up,hM,hkt]
       refine drawD_of 10 (by kernel_rfl) ?_
       simp[hik,w2]
       refine round_of hI1 hS1 hμ1 (j,f,y,(st.1.set k (getZ st.1 k - 1),st.2)) ⟨⟨z',q2⟩,by simp only;omega,by simp only;omega,hnx',hpath⟩ (by simp only;omega) ?_
       exact⟨[0,1,2,3,4,5,8],by simp[hvy,List.map_set,e1,eInt]⟩
   · have hkc1:((k:Int)==(c:Int))=false:=by simp;omega
     rw[if_neg hkc] at hst3
     obtain rfl|rfl:t=2*k∨t=2*k+1:=by omega
     · rw[kyT_up] at hM hkt
       rw[if_pos (by omega)] at hst3
       rw[hst3] at hpath hnx'
       have hkp:=key_pair (a:=(k:Int)) (b:=(c:Int)) (by omega) (by omega)
       have hev:=mpM_val (ms:=st.2) (c:=k) (p:=c)
       have hee:=hed k c
       have w3:IntKind.i64.wrap (edM st.2 k c+1)=edM st.2 k c+1:=wrap_id (by omega) (by omega)
       have hbm:=mpM_bump (c:=k) (p:=c) (d:=1) hnd
       simp[vSt_up,hM,hkt,hkc1,hkc]
       refine drawP_of 9 (by kernel_rfl) (drawD1_of 9 (by kernel_rfl) ?_)
       simp[headA_list]
       refine bump_step (d0:=76) (d1:=77) (d2:=78) (d3:=79) (neg:=false) 4 (mpM st.2) ((k:Int),.inr (c:Int)) (edM st.2 k c) (by kernel_rfl) (by exact rfl) (by decide) (by simp) (by simp[mapV]) (by simp[kyOf]) vt_zl_75 (hkp) (hev) ?_
       simp[forget,w3,hbm]
       refine round_of hI1 hS1 hμ1 (j,f,y,(st.1,bumpM st.2 k c 1)) ⟨⟨z',q2⟩,by simp only;omega,by simp only;omega,hnx',hpath⟩ (by simp only;omega) ?_
       exact⟨[0,1,2,3,4,5,8],by simp[hvy]⟩
     · rw[kyT_dn] at hM hkt
       rw[if_neg (by omega)] at hst3
       rw[hst3] at hpath hnx'
       have hkp:=key_pair (a:=(c:Int)) (b:=(k:Int)) (by omega) (by omega)
       have hev:=mpM_val (ms:=st.2) (c:=c) (p:=k)
       have hee:=hed c k
       have w3:IntKind.i64.wrap (edM st.2 c k - 1)=edM st.2 c k+-1:=by rw[wrap_id (by omega) (by omega)];omega
       have hbm:=mpM_bump (c:=c) (p:=k) (d:=-1) hnd
       simp[vSt_dn,hM,hkt,hkc1,hkc]
       refine drawP_of 9 (by kernel_rfl) (drawD1_of 9 (by kernel_rfl) ?_)
       simp[headA_list]
       refine bump_step (d0:=24) (d1:=25) (d2:=26) (d3:=27) (neg:=true) 4 (mpM st.2) ((c:Int),.inr (k:Int)) (edM st.2 c k) (by kernel_rfl) (by exact rfl) (by decide) (by simp) (by simp[mapV]) (by simp[kyOf]) vt_zl_75 (hkp) (hev) ?_
       simp[forget,w3,hbm]
       refine round_of hI1 hS1 hμ1 (j,f,y,(st.1,bumpM st.2 c k (-1))) ⟨⟨z',q2⟩,by simp only;omega,by simp only;omega,hnx',hpath⟩ (by simp only;omega) ?_
       exact⟨[0,1,2,3,4,5,8],by simp[hvy]⟩
end Go.Proofs.Ytakohcpfjkcfdaa
