/-
  Places and nets as they are drawn with a fault at times. Plain lemmas and abstract walks.
  Conditions: those typed in each theorem.
-/
import Derived.Test.YtnjedabjbeipeaaSd
import Derived.Test.YtnjedabjbeipeaaNb
namespace Go.Proofs.Ytnjedabjbeipeaa
open Go.RowKit Go.ChangeShapes Go.WideShapes
set_option linter.unusedVariables false
set_option linter.unusedSimpArgs false
attribute [local simp ↓] condG_true condG_false condB_true condB_false
attribute [local simp] AWp_skip AWp_region_t AWp_region_d AWp_region_f still_mk AWp_seq AWp_cond condV_bool condB AWp_block AWp_exit AWp_ret
attribute [local simp] AOps_nil AOp_move AOp_assign AOp_pick AOp_binOp AOp_unOp AOp_convert AOp_len AOp_max AOp_min AOp_indexAddr AOp_load
attribute [local simp] AOp_fieldAddr AOp_field AOp_extract AOp_nilCheck AOp_build AOp_alloc AOp_box AOp_call AOp_store AOp_append AOp_buildSlice nextB_some
attribute [local simp] nextB_none adoptO adoptC AOp_makeSlice AOp_slice AOp_makeFunc AOp_guard guardD_some guardG_bool guardG_undef nextO_some nextS_some
attribute [local simp] nextZ_some nextL_some nextM_some nextT_some sliceO sliceL sliceT partO partV boundV funcO pickO
attribute [local simp] convO lenO maxO minO idxO extO nilO buildO litO litC makeO chunks
attribute [local simp] fillV placeOf thenA inBlockA St.get St.put St.eval ofCell evalT abin_add abin_sub abin_mul
attribute [local simp] abin_quo abin_rem abin_and abin_or abin_xor abin_andNot abin_shl abin_shr abin_shlu abin_eql abin_eqp abin_neq
attribute [local simp] abin_lss abin_leq abin_gtr abin_geq abin_eqlb abin_neqb aun pickV lenV intOf? indexV takeD
attribute [local simp] takeV loadV fieldAddrV fieldV ofX presD presDs pres presAll cellsV V.cell storeV
attribute [local simp] freezeC putAt kill takeC plains plainV scalarV nat_neg keepT sets eSl e1
attribute [local simp] e2 e3 e4 eInt eBool abinS_d abinS_agg abinS nilEq abin_eqb AOp_makeMap AOp_lookup
attribute [local simp] AOp_mapUpdate lookG_some updG_some mapV kyOf vlOf lookV vlV buildA afterCall inst inst1
attribute [local simp] inst1s instD instDs RetA resVs resV gives give1 give1s Le isPin leSlots
attribute [local simp] leS leTmps leV le0 le0s ren ren0 renS ren0s frame enterT afterT_some
attribute [local simp] afterC_some lives Slot.live arrsOk viewV view0 renT rens renSs setAll List.range'_succ RetT
attribute [local simp] RetW joinV leT AOpsE_nil AOpsE_cons AOpsT_nil AOpsT_cons isCallT isFnO callOf callVC_fn condC_true
attribute [local simp] condC_false beginT_mk beginX_mk AOpsX_zero thenT_mk pickE pickT isT loose namesOf namesV names1
attribute [local simp] names0 stableN sameAt Op.operands Call.operands
def placeV (c:Cur) (n:Int):Int:=if onceV c 15=true then [-1,n,n+1,9223372036854775807,-9223372036854775808].getD (belowV (belowC c 15) 5).toNat 0 else belowV (belowC c 15) n
def placeC (c:Cur) (n:Int):Cur:=if onceV c 15=true then belowC (belowC c 15) 5 else belowC (belowC c 15) n
theorem placeC_ok {c:Cur} {n:Int} (h:c.ok):(placeC c n).ok:=by
 unfold placeC
 split
 · exact belowC_ok (belowC_ok h)
 · exact belowC_ok (belowC_ok h)
theorem getD5_rng {a b d e f:Int} {k:Nat} (ha:isI a) (hb:isI b) (hd:isI d) (he:isI e) (hf:isI f):isI ([a,b,d,e,f].getD k 0):=by
 match k with
 | 0=>exact ha
 | 1=>exact hb
 | 2=>exact hd
 | 3=>exact he
 | 4=>exact hf
 | k+5=>exact (by unfold isI;simp)
theorem pick5_conT (c:Cur) (h:c.ok) (a b d e f:Int):ConT Try.prog 98 [.ptr 0 0,.d (.sl 3 [[.int .i64 a],[.int .i64 b],[.int .i64 d],[.int .i64 e],[.int .i64 f]])] [enCur c] (.d (.int .i64 ([a,b,d,e,f].getD (belowV c 5).toNat 0))) [enCur (belowC c 5)] :=
 l01PickInt_conT c [a,b,d,e,f] h (by simp) (by simp)
theorem pick6_conT (c:Cur) (h:c.ok) (a b d e f g:Int):ConT Try.prog 98 [.ptr 0 0,.d (.sl 3 [[.int .i64 a],[.int .i64 b],[.int .i64 d],[.int .i64 e],[.int .i64 f],[.int .i64 g]])] [enCur c] (.d (.int .i64 ([a,b,d,e,f,g].getD (belowV c 6).toNat 0))) [enCur (belowC c 6)] :=
 l01PickInt_conT c [a,b,d,e,f,g] h (by simp) (by simp)
set_option maxRecDepth 100000 in
theorem l01Place_conT (c:Cur) (n:Int) (h:c.ok) (hn:-256≤n∧n≤256):ConT Try.prog 96 [.ptr 0 0,.d (.int .i64 n)] [enCur c] (.d (.int .i64 (placeV c n))) [enCur (placeC c n)]:=by
 have k1:=l01Once_conT c 15 h (by omega)
 have k2:=pick5_conT (belowC c 15) (belowC_ok h) (-1) n (n+1) 9223372036854775807 (-9223372036854775808)
 have k3:=l01Below_conT (belowC c 15) n (belowC_ok h) (by omega)
 have hV:placeV c n=if onceV c 15=true then [-1,n,n+1,9223372036854775807,-9223372036854775808].getD (belowV (belowC c 15) 5).toNat 0 else belowV (belowC c 15) n:=rfl
 have hC:placeC c n=if onceV c 15=true then belowC (belowC c 15) 5 else belowC (belowC c 15) n:=rfl
 have w1:IntKind.i64.wrap (n+1)=n+1:=wrap_id (by omega) (by omega)
 generalize placeV c n=v at *
 generalize placeC c n=c2 at *
 generalize [-1,n,n+1,9223372036854775807,-9223372036854775808].getD (belowV (belowC c 15) 5).toNat 0=v5 at *
 generalize belowC (belowC c 15) 5=c5 at *
 generalize belowC (belowC c 15) n=c4 at *
 generalize belowV (belowC c 15) n=v4 at *
 generalize onceV c 15=ob at *
 generalize belowC c 15=c1 at *
 refine conT_of (by kernel_rfl) Try.func96 rfl rfl rfl (by simp[laters,Later]) (by simp[lives,Slot.live]) ?_
 cases ob with
 | true =>
   rw[if_pos rfl] at hV hC
   subst hV hC
   simp
   refine callT_step (k1) [] [0] (by simp) ?_
   simp[w1]
   refine callT_step (k2) [1] [0] (by simp) ?_
   simp
   exact⟨[0],by simp⟩
 | false =>
   rw[if_neg (by simp)] at hV hC
   subst hV hC
   simp
   refine callT_step (k1) [] [0] (by simp) ?_
   simp
   refine callT_step (k3) [] [0] (by simp) ?_
   simp
   exact⟨[0],by simp⟩
def fillG {α:Type} (z:α) (m:Int):Nat→List α→Cur→List α×Cur
 | 0,o,c=>(o,c)
 | n+1,o,c=>if (o.length:Int)<m+belowV c 2 then fillG z m n (o++[z]) (belowC c 2) else (o,belowC c 2)
theorem fillG_len {α:Type} {z:α} {m:Int}:∀ (n:Nat) (o:List α) (c:Cur),(fillG z m n o c).1.length≤o.length+n
 | 0,o,c=>by simp[fillG]
 | n+1,o,c=>by
   unfold fillG
   split
   · have:=fillG_len (z:=z) (m:=m) n (o++[z]) (belowC c 2)
     simp at this ⊢
     omega
   · simp
theorem fillG_mem {α:Type} {z:α} {m:Int} {p:α→Prop} (hz:p z):∀ (n:Nat) (o:List α) (c:Cur),(∀ x∈o,p x)→∀ x∈(fillG z m n o c).1,p x
 | 0,o,c,h=>h
 | n+1,o,c,h=>by
   unfold fillG
   split
   · exact fillG_mem hz n _ _ fun x hx=>by
      rcases List.mem_append.1 hx with hx|hx
      · exact h x hx
      · rw[List.mem_singleton.1 hx];exact hz
   · exact h
def anyZ (c:Cur):Int:=belowV (ayC c) 16
def anyK (c:Cur):Cur:=belowC (ayC c) 16
def an0P (x:GrD) (c:Cur):GrD×Cur:=(([-1,0,20,21,9223372036854775807,-9223372036854775808].getD (belowV c 6).toNat 0,x.2),belowC c 6)
def an1P (x:GrD) (c:Cur):GrD×Cur:=((x.1,x.2.1,x.2.2.1,x.2.2.2++[[-1,0,1,600,9223372036854775807].getD (belowV c 5).toNat 0]),belowC c 5)
def an2P (x:GrD) (c:Cur):GrD×Cur:=((x.1,x.2.1,x.2.2.1++[(2*nodesG x,placeV c 4)],x.2.2.2),placeC c 4)
def an3P (x:GrD) (c:Cur):GrD×Cur:=((x.1,x.2.1++[(belowV c 4 - 1,[-1,1,2,31,32].getD (belowV (belowC c 4) 5).toNat 0,[0])],x.2.2),belowC (belowC c 4) 5)
def an4P (x:GrD) (c:Cur):GrD×Cur:=((x.1,x.2.1,x.2.2.1,(fillG 1 16 (18 - x.2.2.2.length) x.2.2.2 c).1),(fillG 1 16 (18 - x.2.2.2.length) x.2.2.2 c).2)
def an5P (x:GrD) (c:Cur):GrD×Cur:=if onceV c 6=true then ((x.1,x.2.1,(fillG (2,1) 300 (302 - x.2.2.1.length) x.2.2.1 (belowC c 6)).1,x.2.2.2),(fillG ((2,1):AndD) 300 (302 - x.2.2.1.length) x.2.2.1 (belowC c 6)).2) else (x,belowC c 6)
def anyP (c:Cur):GrD×Cur :=
 if anyZ c=0 then an0P (ayG c) (anyK c) else if anyZ c=1 then an1P (ayG c) (anyK c) else if anyZ c=2 then an2P (ayG c) (anyK c) else if anyZ c=3 then an3P (ayG c) (anyK c)
 else if anyZ c=4 then an4P (ayG c) (anyK c) else if anyZ c=5 then an5P (ayG c) (anyK c) else (ayG c,anyK c)
theorem anyK_ok {c:Cur} (h:c.ok):(anyK c).ok:=belowC_ok (ayC_ok h)
def tame (x:GrD):Prop:=fitGr 1000 x∧okGr x
theorem ayG_tame {c:Cur}:tame (ayG c):=by
 have hok:=ayG_ok (c:=c)
 obtain⟨⟨n1,n2,n3,n4,n5,n6⟩,o1,o2,o3⟩:=netOk_of hok
 exact⟨⟨by omega,fun s hs=>by have:=seqOk_len (o1 s hs);omega,by omega,by omega⟩,okGr_netOk hok⟩
theorem isI_nat {n:Int} (h:-1≤n∧n≤1000000):isI n:=⟨by omega,by omega⟩
theorem an_tame {x:GrD} {c:Cur} (hok:netOkB x=true) (hl:x.2.1.length≤3∧x.2.2.1.length≤14∧x.2.2.2.length≤4) (h:tame x):tame (an0P x c).1∧tame (an1P x c).1∧tame (an2P x c).1∧tame (an3P x c).1∧tame (an4P x c).1∧tame (an5P x c).1:=by
 obtain⟨⟨f1,f2,f3,f4⟩,g1,g2,g3,g4⟩:=h
 obtain⟨⟨n1,n2,n3,n4,n5,n6⟩,o1,o2,o3⟩:=netOk_of hok
 refine⟨⟨⟨f1,f2,f3,f4⟩,g1,g2,g3,?_⟩,⟨⟨f1,f2,f3,?_⟩,?_,g2,g3,g4⟩,⟨⟨f1,f2,?_,f4⟩,g1,g2,?_,g4⟩,⟨⟨?_,?_,f3,f4⟩,g1,?_,g3,g4⟩,⟨⟨f1,f2,f3,?_⟩,?_,g2,g3,g4⟩,?_⟩
 · show isI ([-1,0,20,21,9223372036854775807,-9223372036854775808].getD (belowV c 6).toNat 0)
   match (belowV c 6).toNat with
   | 0=>exact⟨by decide,by decide⟩
   | 1=>exact⟨by decide,by decide⟩
   | 2=>exact⟨by decide,by decide⟩
   | 3=>exact⟨by decide,by decide⟩
   | 4=>exact⟨by decide,by decide⟩
   | 5=>exact⟨by decide,by decide⟩
   | k+6=>exact⟨by simp,by simp⟩
 · show (x.2.2.2++[_]).length≤1000
   simp;omega
 · intro y hy
   rcases List.mem_append.1 (show y∈x.2.2.2++[[-1,0,1,600,9223372036854775807].getD (belowV c 5).toNat 0] from hy) with hy|hy
   · exact g1 y hy
   · rw[List.mem_singleton.1 hy]
     exact getD5_rng ⟨by decide,by decide⟩ ⟨by decide,by decide⟩ ⟨by decide,by decide⟩ ⟨by decide,by decide⟩ ⟨by decide,by decide⟩
 · show (x.2.2.1++[_]).length≤1000
   simp;omega
 · intro a ha
   rcases List.mem_append.1 (show a∈x.2.2.1++[(2*nodesG x,placeV c 4)] from ha) with ha|ha
   · exact g3 a ha
   · rw[List.mem_singleton.1 ha]
     refine⟨isI_nat (by simp only;omega),?_⟩
     show isI (placeV c 4)
     unfold placeV
     split
     · exact getD5_rng ⟨by decide,by decide⟩ ⟨by decide,by decide⟩ ⟨by decide,by decide⟩ ⟨by decide,by decide⟩ ⟨by decide,by decide⟩
     · have:=belowV_rng (belowC c 15) (n:=4) (by omega)
       exact isI_nat (by omega)
 · show (x.2.1++[_]).length≤1000
   simp;omega
 · intro s hs
   rcases List.mem_append.1 (show s∈x.2.1++[(belowV c 4 - 1,[-1,1,2,31,32].getD (belowV (belowC c 4) 5).toNat 0,[0])] from hs) with hs|hs
   · exact f2 s hs
   · rw[List.mem_singleton.1 hs];simp
 · intro s hs
   rcases List.mem_append.1 (show s∈x.2.1++[(belowV c 4 - 1,[-1,1,2,31,32].getD (belowV (belowC c 4) 5).toNat 0,[0])] from hs) with hs|hs
   · exact g2 s hs
   · rw[List.mem_singleton.1 hs]
     have:=belowV_rng c (n:=4) (by omega)
     refine⟨isI_nat (by simp only;omega),getD5_rng ⟨by decide,by decide⟩ ⟨by decide,by decide⟩ ⟨by decide,by decide⟩ ⟨by decide,by decide⟩ ⟨by decide,by decide⟩,fun y hy=>?_⟩
     rw[List.mem_singleton.1 hy]
     exact⟨by decide,by decide⟩
 · have:=fillG_len (z:=(1:Int)) (m:=16) (18 - x.2.2.2.length) x.2.2.2 c
   show (fillG 1 16 (18 - x.2.2.2.length) x.2.2.2 c).1.length≤1000
   omega
 · exact fillG_mem (p:=isI) ⟨by decide,by decide⟩ _ _ _ g1
 · unfold an5P
   split
   · have:=fillG_len (z:=((2,1):AndD)) (m:=300) (302 - x.2.2.1.length) x.2.2.1 (belowC c 6)
     refine⟨⟨f1,f2,?_,f4⟩,g1,g2,?_,g4⟩
     · show (fillG ((2,1):AndD) 300 (302 - x.2.2.1.length) x.2.2.1 (belowC c 6)).1.length≤1000
       omega
     · exact fillG_mem (p:=fun a:AndD=>isI a.1∧isI a.2) ⟨⟨by decide,by decide⟩,by decide,by decide⟩ _ _ _ g3
   · exact⟨⟨f1,f2,f3,f4⟩,g1,g2,g3,g4⟩
theorem ay_lens (c:Cur):(ayG c).2.1.length≤3∧(ayG c).2.2.1.length≤14∧1≤(ayG c).2.2.2.length∧(ayG c).2.2.2.length≤4:=by
 obtain⟨h1,h2,h3⟩:=ay_nums c
 have lS:(ayPS c).2.length=aySq c:=drS_len _
 have lA:(ayPA c).2.length=ayAn c:=drA_len _
 have lO:(ayPO c).2.length=(belowV (ayPS c).1 4).toNat+1:=drO_len _
 have b4:=belowV_rng (ayPS c).1 (n:=4) (by omega)
 refine⟨?_,?_,?_,?_⟩
 · show (ayPS c).2.length≤3;omega
 · show (ayPA c).2.length≤14;omega
 · show 1≤(ayPO c).2.length;omega
 · show (ayPO c).2.length≤4;omega
theorem anyP_tame {c:Cur}:tame (anyP c).1:=by
 obtain⟨l1,l2,l3,l4⟩:=ay_lens c
 obtain⟨t0,t1,t2,t3,t4,t5⟩:=an_tame (c:=anyK c) (ayG_ok (c:=c)) ⟨l1,l2,l4⟩ ayG_tame
 unfold anyP
 split
 · exact t0
 split
 · exact t1
 split
 · exact t2
 split
 · exact t3
 split
 · exact t4
 split
 · exact t5
 · exact ayG_tame
theorem tame_fit {x:GrD} (h:tame x):fitGr 1048576 x:=by
 obtain⟨⟨f1,f2,f3,f4⟩,_⟩:=h
 exact⟨by omega,fun s hs=>by have:=f2 s hs;omega,by omega,by omega⟩
set_option maxRecDepth 100000 in
set_option maxHeartbeats 8000000 in
theorem l08Any_conT (c:Cur) (h:c.ok):ConT Try.prog 97 [.ptr 0 0] [enCur c] (vgr (anyP c).1) [enCur (anyP c).2]:=by
 have kD:=netD_conT c h
 have kO:=netO_conT c h
 have kA0:=netA0_conT c h
 have kA1:=netA1_conT c h
 have kS0:=netS0_conT c h
 have kS1:=netS1_conT c h
 obtain⟨l1,l2,l3,l4⟩:=ay_lens c
 have hok:=ayG_ok (c:=c)
 have htm:=ayG_tame (c:=c)
 obtain⟨n1,n2,n3,n4,n5,n6⟩:=(netOk_of hok).1
 have hCk:=ayC_ok h
 have hKk:=anyK_ok h
 have hb:=belowV_rng (ayC c) (n:=16) (by omega)
 have k1:=l01Below_conT (ayC c) 16 hCk (by omega)
 have eZ:anyZ c=belowV (ayC c) 16:=rfl
 have eK:anyK c=belowC (ayC c) 16:=rfl
 rw[←eZ,←eK] at k1
 rw[←eZ] at hb
 unfold anyP
 generalize ayG c=x at *
 generalize anyZ c=z at *
 generalize anyK c=c2 at *
 generalize ayC c=c1 at *
 clear eZ eK
 have hnc:=sNodeCount_con x
 obtain⟨I,sq,an,os⟩:=x
 simp only at l1 l2 l3 l4 kD kO kA0 kA1 kS0 kS1
 refine conT_ofD (by kernel_rfl) Try.func97 rfl rfl rfl (by simp[laters,Later]) (by simp[lives,Slot.live]) ?_
 by_cases z0:z=0
 · subst z0
   have kp:=pick6_conT c2 hKk (-1) 0 20 21 9223372036854775807 (-9223372036854775808)
   simp only[if_true,an0P]
   simp
   refine callT_step (kD) [] [0] (by simp) ?_
   simp
   refine callT_step (k1) [] [0] (by simp) ?_
   simp
   refine callT_step (kp) [3] [0] (by simp) ?_
   simp
   exact⟨[0],by simp⟩
 by_cases z1:z=1
 · subst z1
   have kp:=pick5_conT c2 hKk (-1) 0 1 600 9223372036854775807
   rw[if_neg (by omega),if_pos rfl]
   simp only[an1P]
   simp
   refine callT_step (kO) [] [0] (by simp) ?_
   simp
   refine callT_step (k1) [] [0] (by simp) ?_
   simp
   refine drawE_of [(4,[0,1]),(5,[0,1]),(6,[]),(7,[]),(8,[])] (by kernel_rfl) ?_
   simp
   refine callC_step (kp) [4] [0] (by simp) (by simp[nearTo]) ?_
   simp
   refine app_data vt_el_26 rfl (by simp) rfl (by simp) (by simp) (by first | (simp;done)|(simp;omega)) (by simp[flatP,flatD]) ?_
   simp
   exact⟨[0],by simp⟩
 by_cases z2:z=2
 · subst z2
   have kp:=l01Place_conT c2 4 hKk (by omega)
   rw[if_neg (by omega),if_neg (by omega),if_pos rfl]
   simp only[an2P]
   have w1:IntKind.i64.wrap (2*nodesG (I,sq,an,os))=2*nodesG (I,sq,an,os):=wrap_id (by omega) (by omega)
   generalize nodesG (I,sq,an,os)=nn at *
   generalize placeV c2 4=v at *
   generalize placeC c2 4=c3 at *
   by_cases h0:an.length=0
   · have ha:an=[]:=List.eq_nil_of_length_eq_zero h0
     subst ha
     simp
     refine callT_step (kA0 rfl) [] [0] (by simp) ?_
     simp
     refine callT_step (k1) [] [0] (by simp) ?_
     simp
     refine drawE_of [(6,[0,1,4]),(7,[0,1]),(8,[0,1]),(9,[]),(10,[]),(11,[])] (by kernel_rfl) ?_
     simp
     refine call_step (hnc) ?_
     simp[w1,enGr]
     refine callC_step (kp) [] [0] (by simp) (by simp[nearTo]) ?_
     simp
     refine app_data vt_el_25 rfl (by simp) rfl (by simp) (by simp) (by first | (simp;done)|(simp;omega)) (by simp[flatP,flatD]) ?_
     simp
     exact⟨[0],by simp[enAnd]⟩
   · simp
     refine callT_step (kA1 h0) [] [0] (by simp) ?_
     simp
     refine callT_step (k1) [] [0] (by simp) ?_
     simp
     refine drawE_of [(6,[0,1,4]),(7,[0,1]),(8,[0,1]),(9,[]),(10,[]),(11,[])] (by kernel_rfl) ?_
     simp
     refine call_step (hnc) ?_
     simp[w1,enGr]
     refine callC_step (kp) [] [0] (by simp) (by simp[nearTo]) ?_
     simp
     refine app_data vt_el_25 rfl (by simp) rfl (by simp) (by simp) (by first | (simp;done)|(simp;omega)) (by simp[flatP,flatD]) ?_
     simp
     exact⟨[0],by simp[enAnd]⟩
 by_cases z3:z=3
 · subst z3
   have kb:=l01Below_conT c2 4 hKk (by omega)
   have rb:=belowV_rng c2 (n:=4) (by omega)
   have kp:=pick5_conT (belowC c2 4) (belowC_ok hKk) (-1) 1 2 31 32
   rw[if_neg (by omega),if_neg (by omega),if_neg (by omega),if_pos rfl]
   simp only[an3P]
   have w3:IntKind.i64.wrap (belowV c2 4 - 1)=belowV c2 4 - 1:=wrap_id (by omega) (by omega)
   generalize [-1,1,2,31,32].getD (belowV (belowC c2 4) 5).toNat 0=v5 at *
   generalize belowC (belowC c2 4) 5=c5 at *
   generalize belowC c2 4=c4 at *
   generalize belowV c2 4=v4 at *
   by_cases h0:sq.length=0
   · have ha:sq=[]:=List.eq_nil_of_length_eq_zero h0
     subst ha
     simp
     refine callT_step (kS0 rfl) [] [0] (by simp) ?_
     simp
     refine callT_step (k1) [] [0] (by simp) ?_
     simp
     refine drawX_of [(3,[0,1,5,6,8]),(4,[0,1,5,6,8]),(7,[0,1,8]),(9,[0,1]),(10,[0,1]),(11,[]),(12,[]),(13,[])] (by kernel_rfl) ?_
     simp
     refine stepX [(3,[0,1,5,6,8])] (by kernel_rfl) ?_
     simp[eachX_one,eachX_two,List.erase_cons]
     refine callC_step (kb) [] [0] (by simp) (by simp[nearTo]) ?_
     simp
     refine stepX [(4,[0,1,5,6,8]),(7,[0,1,8])] (by kernel_rfl) ?_
     simp[eachX_one,eachX_two,List.erase_cons,w3]
     refine⟨?_,?_⟩
     · refine stepX [(7,[0,1,8])] (by kernel_rfl) ?_
       simp[eachX_one,eachX_two,List.erase_cons]
       refine callC_step (kp) [3] [0] (by simp) (by simp[nearTo]) ?_
       simp
       refine stepX [(9,[0,1])] (by kernel_rfl) ?_
       simp[eachX_one,eachX_two,List.erase_cons,w3]
       refine stepX [(10,[0,1])] (by kernel_rfl) ?_
       simp[eachX_one,eachX_two,List.erase_cons]
       refine stepX [(11,[])] (by kernel_rfl) ?_
       simp[eachX_one,eachX_two,List.erase_cons]
       first | refine app_lit (q:=1) vt_el_24 (by exact rfl) (by simp) (by exact rfl) (by exact rfl) (by simp) (by simp) (by first | (simp;done)|(simp;omega)) ?_|refine app_row vt_el_24 (by exact rfl) (by simp) (by exact rfl) (by simp) (by first | (simp;done)|(simp;omega)) ?_
       simp
       refine stepX [(12,[])] (by kernel_rfl) ?_
       simp[eachX_one,eachX_two,List.erase_cons]
       refine stepX [(13,[])] (by kernel_rfl) ?_
       simp[eachX_one,eachX_two,List.erase_cons]
       exact⟨[0],by simp[enSeq,e3]⟩
     · refine callC_step (kp) [3] [0] (by simp) (by simp[nearTo]) ?_
       simp
       refine stepX [(4,[0,1,5,6,8])] (by kernel_rfl) ?_
       simp[eachX_one,eachX_two,List.erase_cons,w3]
       refine stepX [(9,[0,1])] (by kernel_rfl) ?_
       simp[eachX_one,eachX_two,List.erase_cons,w3]
       refine stepX [(10,[0,1])] (by kernel_rfl) ?_
       simp[eachX_one,eachX_two,List.erase_cons]
       refine stepX [(11,[])] (by kernel_rfl) ?_
       simp[eachX_one,eachX_two,List.erase_cons]
       first | refine app_lit (q:=1) vt_el_24 (by exact rfl) (by simp) (by exact rfl) (by exact rfl) (by simp) (by simp) (by first | (simp;done)|(simp;omega)) ?_|refine app_row vt_el_24 (by exact rfl) (by simp) (by exact rfl) (by simp) (by first | (simp;done)|(simp;omega)) ?_
       simp
       refine stepX [(12,[])] (by kernel_rfl) ?_
       simp[eachX_one,eachX_two,List.erase_cons]
       refine stepX [(13,[])] (by kernel_rfl) ?_
       simp[eachX_one,eachX_two,List.erase_cons]
       exact⟨[0],by simp[enSeq,e3]⟩
   · simp
     refine callT_step (kS1 h0) [] [0] (by simp) ?_
     simp
     refine callT_step (k1) [] [0] (by simp) ?_
     simp
     refine drawX_of [(3,[0,1,5,6,8]),(4,[0,1,5,6,8]),(7,[0,1,8]),(9,[0,1]),(10,[0,1]),(11,[]),(12,[]),(13,[])] (by kernel_rfl) ?_
     simp
     refine stepX [(3,[0,1,5,6,8])] (by kernel_rfl) ?_
     simp[eachX_one,eachX_two,List.erase_cons]
     refine callC_step (kb) [] [0] (by simp) (by simp[nearTo]) ?_
     simp
     refine stepX [(4,[0,1,5,6,8]),(7,[0,1,8])] (by kernel_rfl) ?_
     simp[eachX_one,eachX_two,List.erase_cons,w3]
     refine⟨?_,?_⟩
     · refine stepX [(7,[0,1,8])] (by kernel_rfl) ?_
       simp[eachX_one,eachX_two,List.erase_cons]
       refine callC_step (kp) [4] [0] (by simp) (by simp[nearTo]) ?_
       simp
       refine stepX [(9,[0,1])] (by kernel_rfl) ?_
       simp[eachX_one,eachX_two,List.erase_cons,w3]
       refine stepX [(10,[0,1])] (by kernel_rfl) ?_
       simp[eachX_one,eachX_two,List.erase_cons]
       refine stepX [(11,[])] (by kernel_rfl) ?_
       simp[eachX_one,eachX_two,List.erase_cons]
       first | refine app_lit (q:=1) vt_el_24 (by exact rfl) (by simp) (by exact rfl) (by exact rfl) (by simp) (by simp) (by first | (simp;done)|(simp;omega)) ?_|refine app_row vt_el_24 (by exact rfl) (by simp) (by exact rfl) (by simp) (by first | (simp;done)|(simp;omega)) ?_
       simp
       refine stepX [(12,[])] (by kernel_rfl) ?_
       simp[eachX_one,eachX_two,List.erase_cons]
       refine stepX [(13,[])] (by kernel_rfl) ?_
       simp[eachX_one,eachX_two,List.erase_cons]
       exact⟨[0],by simp[enSeq,e3]⟩
     · refine callC_step (kp) [4] [0] (by simp) (by simp[nearTo]) ?_
       simp
       refine stepX [(4,[0,1,5,6,8])] (by kernel_rfl) ?_
       simp[eachX_one,eachX_two,List.erase_cons,w3]
       refine stepX [(9,[0,1])] (by kernel_rfl) ?_
       simp[eachX_one,eachX_two,List.erase_cons,w3]
       refine stepX [(10,[0,1])] (by kernel_rfl) ?_
       simp[eachX_one,eachX_two,List.erase_cons]
       refine stepX [(11,[])] (by kernel_rfl) ?_
       simp[eachX_one,eachX_two,List.erase_cons]
       first | refine app_lit (q:=1) vt_el_24 (by exact rfl) (by simp) (by exact rfl) (by exact rfl) (by simp) (by simp) (by first | (simp;done)|(simp;omega)) ?_|refine app_row vt_el_24 (by exact rfl) (by simp) (by exact rfl) (by simp) (by first | (simp;done)|(simp;omega)) ?_
       simp
       refine stepX [(12,[])] (by kernel_rfl) ?_
       simp[eachX_one,eachX_two,List.erase_cons]
       refine stepX [(13,[])] (by kernel_rfl) ?_
       simp[eachX_one,eachX_two,List.erase_cons]
       exact⟨[0],by simp[enSeq,e3]⟩
 by_cases z4:z=4
 · subst z4
   rw[if_neg (by omega),if_neg (by omega),if_neg (by omega),if_neg (by omega),if_pos rfl]
   simp only[an4P]
   generalize hR:fillG 1 16 (18 - os.length) os c2=R
   simp
   refine callT_step (kO) [] [0] (by simp) ?_
   simp
   refine callT_step (k1) [] [0] (by simp) ?_
   simp
   refine aw_loopN [true,false,true,true,false,false,false,false,false,false,false,false,false,false,false,false,false,false,false,false,false,false,false,false,false,false,false,false,false,false,false,false,false,false,false,false,false,false,false,false,false,false,false,false,false,false,false,false,false,false,false,false,false,false,false,false,false,false,false,false,false,false,false,false,false,false,false,false,false,false,false,false,false,false,false,false,false,false,false,false,false,false,false,false] (fun p:Nat×List Int×Cur=>p.1+p.2.1.length=18∧p.2.1.length≤17∧p.2.2.ok∧fillG 1 16 p.1 p.2.1 p.2.2=R) (fun p:Nat×List Int×Cur=>[]) (fun p:Nat×List Int×Cur=>fun _=>[enCur p.2.2,zG,.arr 3 true (p.2.1.map (e1 eInt)),.var 28 [.d (.int .i64 I),.d (eSl 31 enSeq sq),.d (eSl 60 enAnd an),.ref 2]]) (fun p:Nat×List Int×Cur=>p.1) (18 - os.length,os,c2) ?_ ?_ ?_
   · exact⟨by simp only;omega,by simp only;omega,hKk,hR⟩
   · exact⟨[0,1,2,3],by simp[zG]⟩
   rintro I' S μ hI hS hμ ⟨n,o,d⟩ ⟨q1,q2,q3,q4⟩
   simp only at q1 q2 q3 q4
   have kb:=l01Below_conT d 2 q3 (by omega)
   have r1:=belowV_rng d (n:=2) (by omega)
   have okd:=belowC_ok (n:=2) q3
   obtain⟨m,rfl⟩:∃ m,n=m+1:=⟨n - 1,by omega⟩
   rw[fillG] at q4
   generalize belowV d 2=v at *
   generalize belowC d 2=d2 at *
   have w1:IntKind.i64.wrap (16+v)=16+v:=wrap_id (by omega) (by omega)
   by_cases hlt:(o.length:Int)<16+v
   · rw[if_pos hlt] at q4
     simp
     refine drawE_of [(4,[0,1,2]),(5,[0,1,2]),(6,[])] (by kernel_rfl) ?_
     simp
     refine callC_step (kb) [] [0] (by simp) (by simp[nearTo]) ?_
     simp[w1,hlt]
     refine app_data vt_el_26 rfl (by simp) rfl (by simp) (by simp) (by first | (simp;done)|(simp;omega)) (by simp[flatP,flatD]) ?_
     simp
     exact round_of hI hS hμ (m,o++[1],d2) ⟨by simp at q1 ⊢;omega,by simp;omega,okd,q4⟩ (by simp) ⟨[0,1,5,3],by simp[e1,eInt]⟩
   · rw[if_neg hlt] at q4
     subst q4
     simp
     refine drawE_of [(4,[0,1,2]),(5,[0,1,2]),(6,[])] (by kernel_rfl) ?_
     simp
     refine callC_step (kb) [] [0] (by simp) (by simp[nearTo]) ?_
     simp[w1,hlt]
     exact⟨[0],by simp⟩
 rw[if_neg (by omega),if_neg (by omega),if_neg (by omega),if_neg (by omega),if_neg (by omega)]
 have b0:(z==0)=false:=by simpa using z0
 have b1:(z==1)=false:=by simpa using z1
 have b2:(z==2)=false:=by simpa using z2
 have b3:(z==3)=false:=by simpa using z3
 have b4:(z==4)=false:=by simpa using z4
 by_cases z5:z=5
 · subst z5
   clear b0 b1 b2 b3 b4
   rw[if_pos rfl]
   have ko:=l01Once_conT c2 6 hKk (by omega)
   have hK3:=belowC_ok (n:=6) hKk
   unfold an5P
   generalize onceV c2 6=ob at *
   generalize belowC c2 6=c3 at *
   cases ob with
   | false =>
     rw[if_neg (by simp)]
     simp
     refine callT_step (kD) [] [0] (by simp) ?_
     simp
     refine callT_step (k1) [] [0] (by simp) ?_
     simp
     refine callT_step (ko) [] [0] (by simp) ?_
     simp
     exact⟨[0],by simp⟩
   | true =>
     rw[if_pos rfl]
     simp only
     generalize hR:fillG ((2,1):AndD) 300 (302 - an.length) an c3=R
     by_cases h0:an.length=0
     · have ha:an=[]:=List.eq_nil_of_length_eq_zero h0
       subst ha
       simp
       refine callT_step (kA0 rfl) [] [0] (by simp) ?_
       simp
       refine callT_step (k1) [] [0] (by simp) ?_
       simp
       refine callT_step (ko) [] [0] (by simp) ?_
       simp
       refine aw_loopN [true,false,true,true,false,false,false,false,false,false,false,false,false,false,false,false,false,false,false,false,false,false,false,false,false,false,false,false,false,false,false,false,false,false,false,false,false,false,false,false,false,false,false,false,false,false,false,false,false,false,false,false,false,false,false,false,false,false,false,false,false,false,false,false,false,false,false,false,false,false,false,false,false,false,false,false,false,false,false,false,false,false,false,false] (fun p:Nat×List AndD×Cur=>p.1+p.2.1.length=302∧p.2.1.length≤301∧p.2.2.ok∧fillG (2,1) 300 p.1 p.2.1 p.2.2=R) (fun p:Nat×List AndD×Cur=>[]) (fun p:Nat×List AndD×Cur=>fun _=>[enCur p.2.2,zG,.var 28 [.d (.int .i64 I),.d (eSl 31 enSeq sq),nC 60 p.2.1.length 3,.d (eSl 3 (e1 eInt) os)]]++nS 60 p.2.1.length (p.2.1.map enAnd)) (fun p:Nat×List AndD×Cur=>p.1) (302 - ([]:List AndD).length,[],c3) ?_ ?_ ?_
       · exact⟨by simp only;omega,by simp only;omega,hK3,hR⟩
       · exact⟨[0,1,2],by simp[nC,nS]⟩
       rintro I' S μ hI hS hμ ⟨n,o,d⟩ ⟨q1,q2,q3,q4⟩
       simp only at q1 q2 q3 q4
       have kb:=l01Below_conT d 2 q3 (by omega)
       have r1:=belowV_rng d (n:=2) (by omega)
       have okd:=belowC_ok (n:=2) q3
       obtain⟨m,rfl⟩:∃ m,n=m+1:=⟨n - 1,by omega⟩
       rw[fillG] at q4
       generalize belowV d 2=v at *
       generalize belowC d 2=d2 at *
       have w1:IntKind.i64.wrap (300+v)=300+v:=wrap_id (by omega) (by omega)
       by_cases hlt:(o.length:Int)<300+v
       · rw[if_pos hlt] at q4
         by_cases ho0:o.length=0
         · have ho:o=[]:=List.eq_nil_of_length_eq_zero ho0
           subst ho
           have hlt':(0:Int)<300+v:=by simpa using hlt
           simp only[List.length_nil]
           have hnC:nC 60 0 3=.nil 60:=rfl
           have hnS:∀ es,nS 60 0 es=[]:=fun es=>rfl
           simp[hnC,hnS]
           refine drawE_of [(4,[0,1,2]),(5,[0,1,2]),(6,[])] (by kernel_rfl) ?_
           simp
           refine callC_step (kb) [] [0] (by simp) (by simp[nearTo]) ?_
           simp[w1,hlt']
           refine app_data vt_el_25 rfl (by simp) rfl (by simp) (by simp) (by first | (simp;done)|(simp;omega)) (by simp[flatP,flatD]) ?_
           simp
           exact round_of hI hS hμ (m,[]++[(2,1)],d2) ⟨by simp at q1 ⊢;omega,by simp,okd,q4⟩ (by simp) ⟨[0,1,2,4],by simp[nC,nS,enAnd,e2,eInt]⟩
         · have hnC:nC 60 o.length 3=.ref 3:=if_neg ho0
           have hnS:∀ es,nS 60 o.length es=[.arr 60 true es]:=fun es=>if_neg ho0
           simp[hnC,hnS]
           refine drawE_of [(4,[0,1,2]),(5,[0,1,2]),(6,[])] (by kernel_rfl) ?_
           simp
           refine callC_step (kb) [] [0] (by simp) (by simp[nearTo]) ?_
           simp[w1,hlt]
           refine app_data vt_el_25 rfl (by simp) rfl (by simp) (by simp) (by first | (simp;done)|(simp;omega)) (by simp[flatP,flatD]) ?_
           simp
           exact round_of hI hS hμ (m,o++[(2,1)],d2) ⟨by simp at q1 ⊢;omega,by simp;omega,okd,q4⟩ (by simp) ⟨[0,1,2,5],by simp[nC,nS,enAnd,e2,eInt]⟩
       · rw[if_neg hlt] at q4
         subst q4
         have ho0:¬ o.length=0:=by omega
         have hnC:nC 60 o.length 3=.ref 3:=if_neg ho0
         have hnS:∀ es,nS 60 o.length es=[.arr 60 true es]:=fun es=>if_neg ho0
         simp[hnC,hnS]
         refine drawE_of [(4,[0,1,2]),(5,[0,1,2]),(6,[])] (by kernel_rfl) ?_
         simp
         refine callC_step (kb) [] [0] (by simp) (by simp[nearTo]) ?_
         simp[w1,hlt]
         exact⟨[0],by simp⟩
     · simp
       refine callT_step (kA1 h0) [] [0] (by simp) ?_
       simp
       refine callT_step (k1) [] [0] (by simp) ?_
       simp
       refine callT_step (ko) [] [0] (by simp) ?_
       simp
       refine aw_loopN [true,false,true,true,false,false,false,false,false,false,false,false,false,false,false,false,false,false,false,false,false,false,false,false,false,false,false,false,false,false,false,false,false,false,false,false,false,false,false,false,false,false,false,false,false,false,false,false,false,false,false,false,false,false,false,false,false,false,false,false,false,false,false,false,false,false,false,false,false,false,false,false,false,false,false,false,false,false,false,false,false,false,false,false] (fun p:Nat×List AndD×Cur=>p.1+p.2.1.length=302∧p.2.1.length≤301∧p.2.2.ok∧fillG (2,1) 300 p.1 p.2.1 p.2.2=R) (fun p:Nat×List AndD×Cur=>[(3,.ptr 2 0)]) (fun p:Nat×List AndD×Cur=>fun _=>[enCur p.2.2,zG,.var 28 [.d (.int .i64 I),.d (eSl 31 enSeq sq),nC 60 p.2.1.length 3,.d (eSl 3 (e1 eInt) os)]]++nS 60 p.2.1.length (p.2.1.map enAnd)) (fun p:Nat×List AndD×Cur=>p.1) (302 - an.length,an,c3) ?_ ?_ ?_
       · exact⟨by simp only;omega,by simp only;omega,hK3,hR⟩
       · exact⟨[0,1,3,2],by simp[nC,nS,show ¬ an=[] from fun e=>h0 (by rw[e];rfl)]⟩
       rintro I' S μ hI hS hμ ⟨n,o,d⟩ ⟨q1,q2,q3,q4⟩
       simp only at q1 q2 q3 q4
       have kb:=l01Below_conT d 2 q3 (by omega)
       have r1:=belowV_rng d (n:=2) (by omega)
       have okd:=belowC_ok (n:=2) q3
       obtain⟨m,rfl⟩:∃ m,n=m+1:=⟨n - 1,by omega⟩
       rw[fillG] at q4
       generalize belowV d 2=v at *
       generalize belowC d 2=d2 at *
       have w1:IntKind.i64.wrap (300+v)=300+v:=wrap_id (by omega) (by omega)
       by_cases hlt:(o.length:Int)<300+v
       · rw[if_pos hlt] at q4
         by_cases ho0:o.length=0
         · have ho:o=[]:=List.eq_nil_of_length_eq_zero ho0
           subst ho
           have hlt':(0:Int)<300+v:=by simpa using hlt
           simp only[List.length_nil]
           have hnC:nC 60 0 3=.nil 60:=rfl
           have hnS:∀ es,nS 60 0 es=[]:=fun es=>rfl
           simp[hnC,hnS]
           refine drawE_of [(4,[0,1,2]),(5,[0,1,2]),(6,[])] (by kernel_rfl) ?_
           simp
           refine callC_step (kb) [] [0] (by simp) (by simp[nearTo]) ?_
           simp[w1,hlt']
           refine app_data vt_el_25 rfl (by simp) rfl (by simp) (by simp) (by first | (simp;done)|(simp;omega)) (by simp[flatP,flatD]) ?_
           simp
           exact round_of hI hS hμ (m,[]++[(2,1)],d2) ⟨by simp at q1 ⊢;omega,by simp,okd,q4⟩ (by simp) ⟨[0,1,2,4],by simp[nC,nS,enAnd,e2,eInt]⟩
         · have hnC:nC 60 o.length 3=.ref 3:=if_neg ho0
           have hnS:∀ es,nS 60 o.length es=[.arr 60 true es]:=fun es=>if_neg ho0
           simp[hnC,hnS]
           refine drawE_of [(4,[0,1,2]),(5,[0,1,2]),(6,[])] (by kernel_rfl) ?_
           simp
           refine callC_step (kb) [] [0] (by simp) (by simp[nearTo]) ?_
           simp[w1,hlt]
           refine app_data vt_el_25 rfl (by simp) rfl (by simp) (by simp) (by first | (simp;done)|(simp;omega)) (by simp[flatP,flatD]) ?_
           simp
           exact round_of hI hS hμ (m,o++[(2,1)],d2) ⟨by simp at q1 ⊢;omega,by simp;omega,okd,q4⟩ (by simp) ⟨[0,1,2,5],by simp[nC,nS,enAnd,e2,eInt]⟩
       · rw[if_neg hlt] at q4
         subst q4
         have ho0:¬ o.length=0:=by omega
         have hnC:nC 60 o.length 3=.ref 3:=if_neg ho0
         have hnS:∀ es,nS 60 o.length es=[.arr 60 true es]:=fun es=>if_neg ho0
         simp[hnC,hnS]
         refine drawE_of [(4,[0,1,2]),(5,[0,1,2]),(6,[])] (by kernel_rfl) ?_
         simp
         refine callC_step (kb) [] [0] (by simp) (by simp[nearTo]) ?_
         simp[w1,hlt]
         exact⟨[0],by simp⟩
 · have b5:(z==5)=false:=by simpa using z5
   rw[if_neg z5]
   simp
   refine callT_step (kD) [] [0] (by simp) ?_
   simp
   refine callT_step (k1) [] [0] (by simp) ?_
   simp[b0,b1,b2,b3,b4,b5]
   exact⟨[0],by simp⟩
end Go.Proofs.Ytnjedabjbeipeaa
