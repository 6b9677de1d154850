/-
  Runs of nets by the reference; drawn masks. By abstract walks.
  Conditions: those typed in each theorem.
-/
import Derived.Test.YtnjedabjbeipeaaNy
import Derived.Test.YtnjedabjbeipeaaNw
import Derived.Test.YtnjedabjbeipeaaDa
namespace Go.Proofs.Ytnjedabjbeipeaa
open Go.RowKit Go.ChangeShapes Go.WideShapes
set_option linter.unusedVariables false
set_option linter.unusedSimpArgs false
attribute [local simp ↓] condG_true condG_false condB_true condB_false
attribute [local simp] AWp_skip AWp_region_t AWp_region_d AWp_region_f still_mk AWp_seq AWp_cond condV_bool condB AWp_block AWp_exit AWp_ret
attribute [local simp] AOps_nil AOp_move AOp_assign AOp_pick AOp_binOp AOp_unOp AOp_convert AOp_len AOp_max AOp_min AOp_indexAddr AOp_load
attribute [local simp] AOp_fieldAddr AOp_field AOp_extract AOp_nilCheck AOp_build AOp_alloc AOp_box AOp_call AOp_store AOp_append AOp_buildSlice nextB_some
attribute [local simp] nextB_none adoptO adoptC AOp_makeSlice AOp_slice AOp_makeFunc AOp_guard guardD_some guardG_bool guardG_undef nextO_some nextS_some
attribute [local simp] nextZ_some nextL_some nextM_some nextT_some sliceO sliceL sliceT partO partV boundV funcO pickO
attribute [local simp] convO lenO maxO minO idxO extO nilO buildO litO litC makeO chunks
attribute [local simp] fillV placeOf thenA inBlockA St.get St.put St.eval ofCell evalT abin_add abin_sub abin_mul
attribute [local simp] abin_quo abin_rem abin_and abin_or abin_xor abin_andNot abin_shl abin_shr abin_shlu abin_eql abin_eqp abin_neq
attribute [local simp] abin_lss abin_leq abin_gtr abin_geq abin_eqlb abin_neqb aun pickV lenV intOf? indexV takeD
attribute [local simp] takeV loadV fieldAddrV fieldV ofX presD presDs pres presAll cellsV V.cell storeV
attribute [local simp] freezeC putAt kill takeC plains plainV scalarV nat_neg keepT sets eSl e1
attribute [local simp] e2 e3 e4 eInt eBool abinS_d abinS_agg abinS nilEq abin_eqb AOp_makeMap AOp_lookup
attribute [local simp] AOp_mapUpdate lookG_some updG_some mapV kyOf vlOf lookV vlV buildA afterCall inst inst1
attribute [local simp] inst1s instD instDs RetA resVs resV gives give1 give1s Le isPin leSlots
attribute [local simp] leS leTmps leV le0 le0s ren ren0 renS ren0s frame enterT afterT_some
attribute [local simp] afterC_some lives Slot.live arrsOk viewV view0 renT rens renSs setAll List.range'_succ RetT
attribute [local simp] RetW joinV leT AOpsE_nil AOpsE_cons AOpsT_nil AOpsT_cons isCallT isFnO callOf callVC_fn condC_true
attribute [local simp] condC_false beginT_mk beginX_mk AOpsX_zero thenT_mk pickE pickT isT loose namesOf namesV names1
attribute [local simp] names0 stableN sameAt Op.operands Call.operands
theorem packK_bit {vs:List Int} (hb:bitsI vs) {i:Nat} {b:Int} (hi:vs[i]? = some b):∀ n,i<n→packK vs n / 2 ^ i % 2=b
 | 0,h=>by omega
 | n+1,h=>by
   have hv:=hb b (List.mem_of_getElem? hi)
   have hp:(0:Int)<2 ^ i:=Int.pow_pos (by omega)
   by_cases e:i=n
   · subst e
     have hl:=packK_lt hb i
     unfold packK
     rw[hi,Option.getD_some,Int.add_mul_ediv_right _ _ (by omega),Int.ediv_eq_zero_of_lt hl.1 hl.2]
     omega
   · have ih:=packK_bit hb hi n (by omega)
     obtain⟨d,hd⟩:∃ d,n=i+1+d:=⟨n - (i+1),by omega⟩
     have h2:(vs[n]?).getD 0*2 ^ n=((vs[n]?).getD 0*2 ^ d*2)*2 ^ i:=by
      rw[hd,Int.pow_add,Int.pow_succ]
      simp only[Int.mul_assoc,Int.mul_comm,Int.mul_left_comm]
     unfold packK
     rw[h2,Int.add_mul_ediv_right _ _ (by omega)]
     omega
theorem seqNext_rng {k v i:Int} (h:rng v 0 (seqMostL k)=true):rng (seqNextL k v i) 0 (seqMostL k)=true:=by
 unfold seqNextL seqMostL at *
 by_cases h0:k=0
 · subst h0
   simp only[if_true] at h ⊢
   rw[h]
   exact rng_iff.2 (by simp;omega)
 by_cases h1:k=1
 · subst h1
   simp only[if_neg h0,if_true] at h ⊢
   rw[h]
   have he:=ram_eq (rng_iff.1 h) (a:=i % 4) (w:=shr64 i 3 % 2) (d:=shr64 i 2 % 2) (by omega) (by omega) (by omega)
   exact rng_iff.2 (by simp;omega)
 · simp only[if_neg h0,if_neg h1] at h
   have:=rng_iff.1 h
   omega
def runStG (x:GrD) (ins:List Int):Nat→List Int
 | 0=>startL x
 | k+1=>(stepG x (runStG x ins k) ((ins[k]?).getD 0)).1
def runOutG (x:GrD) (ins:List Int) (k:Nat):Int:=(stepG x (runStG x ins k) ((ins[k]?).getD 0)).2
def runOutsG (x:GrD) (ins:List Int) (k:Nat):List Int:=(List.range k).map (runOutG x ins)
def netRunL (x:GrD) (ins:List Int):List Int:=if netOkB x=true∧ins.length≤16 then runOutsG x ins ins.length else []
theorem runOutsG_snoc {x:GrD} {ins:List Int} {k:Nat}:runOutsG x ins (k+1)=runOutsG x ins k++[runOutG x ins k]:=by simp[runOutsG,List.range_succ]
theorem runOutsG_len {x:GrD} {ins:List Int} {k:Nat}:(runOutsG x ins k).length=k:=by simp[runOutsG]
theorem nxtG_len {x:GrD} {st vals:List Int} (hl:st.length=x.2.1.length):(nxtG x st vals).length=x.2.1.length:=by simp[nxtG];omega
theorem runStG_len {x:GrD} {ins:List Int}:∀ k,(runStG x ins k).length=x.2.1.length
 | 0=>by simp[runStG,startL]
 | k+1=>nxtG_len (runStG_len k)
theorem stOkG_at {x:GrD} {st:List Int}:stOkGB x st=true↔netOkB x=true∧st.length=x.2.1.length∧∀ (i:Nat) (v:Int) (s:SeqD),st[i]? = some v→x.2.1[i]? = some s→rng v 0 (seqMostL s.1)=true:=by
 simp only[stOkGB,Bool.and_eq_true,decide_eq_true_eq,List.all_eq_true]
 constructor
 · rintro⟨⟨h1,h2⟩,h3⟩
   refine⟨h1,h2,fun i v s hv hs=>h3 (v,s) (List.mem_of_getElem? (i:=i) ?_)⟩
   simp[List.getElem?_zip_eq_some,hv,hs]
 · rintro⟨h1,h2,h3⟩
   refine⟨⟨h1,h2⟩,fun p hp=>?_⟩
   obtain⟨i,hi⟩:=List.mem_iff_getElem?.1 hp
   obtain⟨a,b⟩:=List.getElem?_zip_eq_some.1 hi
   exact h3 i _ _ a b
theorem stOkG_next {x:GrD} {st vals:List Int} (h:stOkGB x st=true):stOkGB x (nxtG x st vals)=true:=by
 obtain⟨h1,h2,h3⟩:=stOkG_at.1 h
 refine stOkG_at.2 ⟨h1,nxtG_len h2,fun i v s hv hs=>?_⟩
 unfold nxtG at hv
 rw[List.getElem?_map,Option.map_eq_some_iff] at hv
 obtain⟨p,hp,rfl⟩:=hv
 obtain⟨a,b⟩:=List.getElem?_zip_eq_some.1 hp
 rw[a] at hs
 have e:p.1=s:=Option.some.inj hs
 have:=h3 i _ _ b a
 unfold nxF
 rw[←e]
 exact seqNext_rng this
theorem stOkG_start {x:GrD} (h:netOkB x=true):stOkGB x (startL x)=true:=by
 refine stOkG_at.2 ⟨h,by simp[startL],fun i v s hv hs=>?_⟩
 unfold startL at hv
 rw[List.getElem?_map,hs] at hv
 have e:s.2.1=v:=Option.some.inj hv
 have h1:=(netOk_of h).2.1 s (List.mem_of_getElem? hs)
 rw[←e]
 unfold seqOkB at h1
 unfold seqMostL
 split at h1
 · rename_i h0
   rw[if_pos h0]
   simp only[Bool.and_eq_true] at h1
   exact h1.1
 · rename_i h0
   rw[if_neg h0]
   split at h1
   · rename_i h2
     rw[if_pos h2]
     simp only[Bool.and_eq_true] at h1
     exact h1.1
   · cases h1
theorem runStG_ok {x:GrD} {ins:List Int} (h:netOkB x=true):∀ k,stOkGB x (runStG x ins k)=true
 | 0=>stOkG_start h
 | k+1=>stOkG_next (runStG_ok h k)
def pickM:List Int:=[-1,1048575,1048576,9223372036854775807,-9223372036854775808]
def pmV (c:Cur):Int:=pickM.getD (belowV c pickM.length).toNat 0
def pmC (c:Cur):Cur:=belowC c pickM.length
def mskV (c:Cur):Int:=if onceV (belowC c 256) 12=true then pmV (belowC (belowC c 256) 12) else belowV c 256
def mskC (c:Cur):Cur:=if onceV (belowC c 256) 12=true then pmC (belowC (belowC c 256) 12) else belowC (belowC c 256) 12
def mskG:Nat→List Int→Cur→List Int×Cur
 | 0,o,c=>(o,c)
 | n+1,o,c=>mskG n (o++[mskV c]) (mskC c)
theorem mskC_ok {c:Cur} (h:c.ok):(mskC c).ok:=by
 unfold mskC
 split
 · exact belowC_ok (belowC_ok (belowC_ok h))
 · exact belowC_ok (belowC_ok h)
theorem mskG_len:∀ (n:Nat) (o:List Int) (c:Cur),(mskG n o c).1.length=o.length+n
 | 0,o,c=>rfl
 | n+1,o,c=>by rw[mskG,mskG_len n];simp;omega
set_option maxRecDepth 100000 in
set_option maxHeartbeats 1000000 in
theorem l09Masks_conT (c:Cur) (n:Nat) (hc:c.ok) (hn:n≤256):ConT Try.prog 43 [.ptr 0 0,.d (.int .i64 n)] [enCur c] (.ref 1) [enCur (mskG n [] c).2,.arr 3 true ((mskG n [] c).1.map (e1 eInt))]:=by
 generalize hF:mskG n [] c=F
 refine conT_of (by kernel_rfl) Try.func43 rfl rfl rfl (by simp[laters,Later]) (by simp[lives,Slot.live]) ?_
 simp
 refine aw_loopU [true,true,false,false,false,true,true,false,false,false,false,false,false,false,false,false,false,false,false,false,false,false,false,false,false,false] (fun i:Nat×List Int×Cur=>i.1≤n∧i.2.2.ok∧i.2.1.length=i.1∧mskG (n - i.1) i.2.1 i.2.2=F) (fun i:Nat×List Int×Cur=>[(6,.d (.int .i64 i.1))]) (fun i:Nat×List Int×Cur=>[(0,enCur i.2.2),(1,.arr 3 true (i.2.1.map (e1 eInt)))]) (fun i:Nat×List Int×Cur=>n - i.1) (0,[],c) ?_ ?_ ?_
 · exact⟨by omega,hc,by simp,by simpa using hF⟩
 · exact⟨[0,1],by simp⟩
 rintro I S μ hI hS hμ ⟨i,a,c1⟩ ⟨hi,hk,ho,hG⟩
 simp only at hi hk ho hG
 by_cases hlt:i<n
 · have hd:decide (i<n)=true:=decide_eq_true hlt
   have w1:IntKind.i64.wrap ((i:Int)+1)=(i:Int)+1:=wrap_id (by omega) (by omega)
   obtain⟨d,hd1⟩:∃ d,n - i=d+1:=⟨n - i - 1,by omega⟩
   have hd3:n - (i+1)=d:=by omega
   rw[hd1] at hG
   unfold mskG at hG
   have k1:=l01Below_conT c1 256 hk (by omega)
   have k2:=l01Once_conT (belowC c1 256) 12 (belowC_ok hk) (by omega)
   have k3:=l01PickInt_conT (belowC (belowC c1 256) 12) pickM (belowC_ok (belowC_ok hk)) (by decide) (by decide)
   have hV:mskV c1=if onceV (belowC c1 256) 12=true then pmV (belowC (belowC c1 256) 12) else belowV c1 256:=rfl
   have hC:mskC c1=if onceV (belowC c1 256) 12=true then pmC (belowC (belowC c1 256) 12) else belowC (belowC c1 256) 12:=rfl
   have hCo:=mskC_ok hk
   rw[←show pmV (belowC (belowC c1 256) 12)=pickM.getD (belowV (belowC (belowC c1 256) 12) pickM.length).toNat 0 from rfl,←show pmC (belowC (belowC c1 256) 12)=belowC (belowC (belowC c1 256) 12) pickM.length from rfl] at k3
   generalize mskC c1=c5 at *
   generalize mskV c1=v at *
   generalize pmV (belowC (belowC c1 256) 12)=v2 at *
   generalize pmC (belowC (belowC c1 256) 12)=c4 at *
   generalize onceV (belowC c1 256) 12=ob at *
   generalize belowC (belowC c1 256) 12=c3 at *
   generalize belowC c1 256=c2 at *
   generalize belowV c1 256=v1 at *
   have q1:pickM=[-1,1048575,1048576,9223372036854775807,-9223372036854775808]:=rfl
   rw[q1] at k3
   simp only[eSl,List.map_cons,List.map_nil] at k3
   clear q1
   simp[hd]
   refine callT_step (k1) [] [0] (by simp) ?_
   simp
   refine callT_step (k2) [] [0] (by simp) ?_
   simp
   cases ob with
   | true =>
     rw[if_pos rfl] at hV hC
     subst hV hC
     simp
     refine callT_step (k3) [2] [0] (by simp) ?_
     simp
     refine app_data vt_el_26 rfl (by simp) rfl (by simp) (by simp) (by first | (simp;done)|(simp;omega)) (by simp[flatP,flatD]) ?_
     simp[w1]
     exact round_of hI hS hμ (i+1,a++[v],c5) ⟨by simp;omega,hCo,by simp;omega,by simp only;rw[hd3];exact hG⟩ (by simp;omega) ⟨[0,4],by simp[e1,eInt]⟩
   | false =>
     rw[if_neg (by simp)] at hV hC
     subst hV hC
     simp
     refine app_data vt_el_26 rfl (by simp) rfl (by simp) (by simp) (by first | (simp;done)|(simp;omega)) (by simp[flatP,flatD]) ?_
     simp[w1]
     exact round_of hI hS hμ (i+1,a++[v],c5) ⟨by simp;omega,hCo,by simp;omega,by simp only;rw[hd3];exact hG⟩ (by simp;omega) ⟨[0,3],by simp[e1,eInt]⟩
 · obtain rfl:i=n:=by omega
   rw[Nat.sub_self,mskG] at hG
   subst hG
   simp[decide_eq_false hlt,hlt]
   exact⟨[0,1],by simp⟩
def drMs (bs:List Int):List Int:=(mskG (1+belowV (cur0 bs) 12).toNat [] (belowC (cur0 bs) 12)).1
theorem drMs_len (bs:List Int):(drMs bs).length≤12:=by
 have:=belowV_rng (cur0 bs) (n:=12) (by omega)
 unfold drMs
 rw[mskG_len]
 simp
 omega
set_option maxRecDepth 100000 in
theorem DrawMasks_conT (bs:List Int) (h:bs.length≤1048576):ConT Try.prog 14 [.d (.sl 5 (bs.map (e1 eByte)))] [] (.d (eSl 3 (e1 eInt) (drMs bs))) []:=by
 have k1:=l01New_conT bs h
 have hc:=cur0_ok h
 have hr:=belowV_rng (cur0 bs) (n:=12) (by omega)
 have k2:=l01Below_conT (cur0 bs) 12 hc (by omega)
 have k3:=l09Masks_conT (belowC (cur0 bs) 12) (1+belowV (cur0 bs) 12).toNat (belowC_ok hc) (by omega)
 have hD:drMs bs=(mskG (1+belowV (cur0 bs) 12).toNat [] (belowC (cur0 bs) 12)).1:=rfl
 have w1:IntKind.i64.wrap (1+belowV (cur0 bs) 12)=((1+belowV (cur0 bs) 12).toNat:Int):=by rw[wrap_id (by omega) (by omega)];omega
 rw[hD]
 generalize (1+belowV (cur0 bs) 12).toNat=n at *
 generalize mskG n [] (belowC (cur0 bs) 12)=G at *
 generalize belowC (cur0 bs) 12=c2 at *
 generalize belowV (cur0 bs) 12=v at *
 generalize cur0 bs=c1 at *
 refine conT_of (by kernel_rfl) Try.func14 rfl rfl rfl (by simp[laters,Later]) (by simp[lives,Slot.live]) ?_
 simp
 refine callT_step (k1) [] [] (by simp) ?_
 simp
 refine callT_step (k2) [] [0] (by simp) ?_
 simp[w1]
 refine callT_step (k3) [] [0] (by simp) ?_
 simp
 exact⟨[],by simp⟩
theorem lSame_con (a:List Int) (ha:a.length≤1048576):ConC Try.prog 18 [ints a,ints a] (.d (.bool true)):=by
 refine con_of (by kernel_rfl) Try.func18 rfl rfl rfl ?_
 simp
 refine aw_loopU [true,true,false,false,false,true,false,false,false,false,false,false,false,false,false,false,false,false,false,false,false,false,false,false,false,false] (fun k:Nat=>k≤a.length) (fun k:Nat=>[(5,.d (.int .i64 k))]) (fun k:Nat=>[]) (fun k:Nat=>a.length - k) 0 ?_ ?_ ?_
 · simp
 · exact⟨[],by simp⟩
 rintro I S μ hI hS hμ k hk
 by_cases hlt:k<a.length
 · have hx1:a[k]? = some a[k]:=List.getElem?_eq_getElem hlt
   have w2:IntKind.i64.wrap ((k:Int)+1)=(k:Int)+1:=wrap_id (by omega) (by omega)
   generalize a[k]=u at *
   have hd:decide (k<a.length)=true:=decide_eq_true hlt
   simp[hd,hx1,w2]
   exact⟨by kernel_rfl,round_of hI hS hμ (k+1) (by omega) (by omega) ⟨[],by simp⟩⟩
 · have hk':k=a.length:=by omega
   simp[hlt]
set_option maxRecDepth 100000 in
set_option maxHeartbeats 1000000 in
theorem iNetRun_con (x:GrD) (ins:List Int) (hx:fitGr 1048576 x) (hi:ins.length≤1048576):ConC Try.prog 21 [igr x,ints ins] (ints (netRunL x ins)):=by
 refine con_of (by kernel_rfl) Try.func21 rfl rfl rfl ?_
 simp[enGr]
 refine call_step (iNetOk_con x hx) ?_
 simp
 rcases Bool.eq_false_or_eq_true (netOkB x) with hok|hok
 case inr=>simp[hok,netRunL]
 by_cases h16:ins.length≤16
 case neg=>simp[hok,netRunL,h16,show (16:Int)<ins.length by omega,show ¬ (ins.length:Int)≤16 by omega]
 have hres:netRunL x ins=runOutsG x ins ins.length:=by simp[netRunL,hok,h16]
 rw[hres]
 simp[hok,show ¬ (16:Int)<ins.length by omega,show (ins.length:Int)≤16 by omega]
 refine call_step (netStart_con x hx) ?_
 simp
 refine aw_loopN [false,false,true,false,false,true,true,false,false,false,false,false,false,false,false,false,false,false,false,false,false,true,true,true,false,false,false,false,false,false,false,false,false,false,false,false,false,false,false,false,false] (fun k:Nat=>k≤ins.length) (fun k:Nat=>[(5,.ref 1),(6,nilR k 2),(23,.d (.int .i64 k))]) (fun k:Nat=>fun sl=>nilS k (runOutsG x ins k) (sl.take 1++[.arr 3 true ((runStG x ins k).map (e1 eInt))])) (fun k:Nat=>ins.length - k) 0 ?_ ?_ ?_
 · simp
 · exact⟨[0,1],by simp[nilR,nilS,runStG]⟩
 rintro I S μ hI hS hμ k hk
 by_cases hlt:k<ins.length
 · have hx1:ins[k]? = some ins[k]:=List.getElem?_eq_getElem hlt
   have w2:IntKind.i64.wrap ((k:Int)+1)=(k:Int)+1:=wrap_id (by omega) (by omega)
   have hd:decide (k<ins.length)=true:=decide_eq_true hlt
   have hc:=netStep_con x (runStG x ins k) ins[k] hx hok (runStG_len k)
   have hn1:runStG x ins (k+1)=(stepG x (runStG x ins k) ins[k]).1:=by simp[runStG,hx1]
   have hn2:runOutsG x ins (k+1)=runOutsG x ins k++[(stepG x (runStG x ins k) ins[k]).2]:=by rw[runOutsG_snoc];simp[runOutG,hx1]
   have hlen:=runOutsG_len (x:=x) (ins:=ins) (k:=k)
   generalize hst:runStG x ins k=st at *
   generalize ins[k]=u at *
   generalize stepG x st u=p at *
   generalize runOutsG x ins k=os at *
   by_cases hk0:k=0
   · subst hk0
     have ho:os=[]:=List.eq_nil_of_length_eq_zero hlen
     subst ho
     have w20:IntKind.i64.wrap 1=1:=by decide
     simp[nilR,nilS,hd,hx1]
     refine call_step (hc) ?_
     simp
     refine app_data vt_el_26 rfl (by simp) rfl (by simp) (by simp) (by first | (simp;done)|(simp;omega)) (by simp[flatP,flatD]) ?_
     simp[w20]
     exact round_of hI hS hμ 1 (by omega) (by omega) ⟨[0,2,4],by simp[nilR,nilS,hn1,hn2]⟩
   · simp[nilR,nilS,hd,hx1,hk0]
     refine call_step (hc) ?_
     simp
     refine app_data vt_el_26 rfl (by simp) rfl (by simp) (by simp) (by first | (simp;done)|(simp;omega)) (by simp[flatP,flatD]) ?_
     simp[w2]
     exact round_of hI hS hμ (k+1) (by omega) (by omega) ⟨[0,3,5],by simp[nilR,nilS,hn1,hn2]⟩
 · have hk':k=ins.length:=by omega
   subst hk'
   by_cases hk0:ins.length=0
   · simp[nilR,nilS,hk0,runOutsG]
   · simp[nilR,nilS,hk0]
end Go.Proofs.Ytnjedabjbeipeaa
