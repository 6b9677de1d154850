/-
  Cones and cuts of a graph, by abstract walks: both sides.
  Conditions: those typed in each theorem.
-/
import Derived.Test.YtakohcpfjkcfdaaNd
import Derived.Test.YtakohcpfjkcfdaaNh
import Derived.Test.YtakohcpfjkcfdaaNi
import Derived.Test.YtakohcpfjkcfdaaNv
namespace Go.Proofs.Ytakohcpfjkcfdaa
open Go.RowKit Go.ChangeShapes Go.WideShapes
set_option linter.unusedVariables false
set_option linter.unusedSimpArgs false
attribute [local simp ↓] condG_true condG_false condB_true condB_false
attribute [local simp] AWp_skip AWp_region_t AWp_region_d AWp_region_f still_mk AWp_seq AWp_cond condV_bool condB AWp_block AWp_exit AWp_ret
attribute [local simp] AOps_nil AOp_move AOp_assign AOp_pick AOp_binOp AOp_unOp AOp_convert AOp_len AOp_max AOp_min AOp_indexAddr AOp_load
attribute [local simp] AOp_fieldAddr AOp_field AOp_extract AOp_nilCheck AOp_build AOp_alloc AOp_box AOp_call AOp_store AOp_append AOp_buildSlice nextB_some
attribute [local simp] nextB_none adoptO adoptC AOp_makeSlice AOp_slice AOp_makeFunc AOp_guard guardD_some guardG_bool guardG_undef nextO_some nextS_some
attribute [local simp] nextZ_some nextL_some nextM_some nextT_some sliceO sliceL sliceT partO partV boundV funcO pickO
attribute [local simp] convO lenO maxO minO idxO extO nilO buildO litO litC makeO chunks
attribute [local simp] fillV placeOf thenA inBlockA St.get St.put St.eval ofCell evalT abin_add abin_sub abin_mul
attribute [local simp] abin_quo abin_rem abin_and abin_or abin_xor abin_andNot abin_shl abin_shr abin_shlu abin_eql abin_eqp abin_neq
attribute [local simp] abin_lss abin_leq abin_gtr abin_geq abin_eqlb abin_neqb aun pickV lenV intOf? indexV takeD
attribute [local simp] takeV loadV fieldAddrV fieldV ofX presD presDs pres presAll cellsV V.cell storeV
attribute [local simp] freezeC putAt kill takeC plains plainV scalarV nat_neg keepT sets eSl e1
attribute [local simp] e2 e3 e4 eInt eBool abinS_d abinS_agg abinS nilEq abin_eqb AOp_makeMap AOp_lookup
attribute [local simp] AOp_mapUpdate lookG_some updG_some mapV kyOf vlOf lookV vlV buildA afterCall inst inst1
attribute [local simp] inst1s instD instDs RetA resVs resV gives give1 give1s Le isPin leSlots
attribute [local simp] leS leTmps leV le0 le0s ren ren0 renS ren0s frame enterT afterT_some
attribute [local simp] afterC_some lives Slot.live arrsOk viewV view0 renT rens renSs setAll List.range'_succ RetT
attribute [local simp] RetW joinV leT AOpsE_nil AOpsE_cons AOpsT_nil AOpsT_cons isCallT isFnO callOf callVC_fn condC_true
attribute [local simp] condC_false beginT_mk thenT_mk pickE pickT isT loose namesOf namesV names1 names0 stableN
attribute [local simp] sameAt Op.operands Call.operands
attribute [local simp] mcone_len esc_len
abbrev bools (s:List Bool):X:=.d (eSl 4 (e1 eBool) s)
def hasB (xs:List Int) (n:Int):Bool:=decide (n∈xs)
theorem hasB_at {xs:List Int} {n:Int} {k:Nat} (h:xs[k]? = some n):hasB xs n=true:=decide_eq_true (List.mem_of_getElem? h)
theorem hasB_not {xs:List Int} {n:Int} (h:∀ (k:Nat) y,xs[k]? = some y→y≠n):hasB xs n=false:=decide_eq_false fun hm=>by
 obtain⟨k,hk,e⟩:=List.mem_iff_getElem.1 hm
 exact h k _ (List.getElem?_eq_getElem hk) e
theorem hasInt_con (xs:List Int) (n:Int) (hx:xs.length≤1099511627776):ConC Try.prog 34 [ints xs,.d (.int .i64 n)] (.d (.bool (hasB xs n))):=by
 refine con_of (by kernel_rfl) Try.func34 rfl rfl rfl ?_
 simp
 refine aw_loopU [false,true,false,false,false,false,false,true,true,true,false,false,false,false,false,false,false] (fun k:Nat=>k≤xs.length∧∀ (j:Nat) y,j<k→xs[j]? = some y→y≠n) (fun k:Nat=>[(9,.d (.int .i64 k))]) (fun k:Nat=>[]) (fun k:Nat=>xs.length - k) 0 ?_ ?_ ?_
 · exact⟨by omega,fun j y h=>by omega⟩
 · exact⟨[],by simp⟩
 rintro I S μ hI hS hμ k ⟨hk,ha⟩
 by_cases hlt:k<xs.length
 · have hx1:xs[k]? = some xs[k]:=List.getElem?_eq_getElem hlt
   have w2:IntKind.i64.wrap ((k:Int)+1)=(k:Int)+1:=wrap_id (by omega) (by omega)
   have hd:decide (k<xs.length)=true:=decide_eq_true hlt
   generalize xs[k]=v at *
   by_cases hv:v=n
   · subst hv
     simp[hd,hx1,hasB_at hx1]
   · simp[hd,hx1,hv,show (v==n)=false by simpa using hv,w2]
     exact round_of hI hS hμ (k+1) ⟨by omega,fun j y hj h=>by
      by_cases e:j=k
      · subst e;rw[hx1] at h;cases h;exact hv
      · exact ha j y (by omega) h⟩ (by omega) ⟨[],by simp⟩
 · have hk':k=xs.length:=by omega
   have hn:hasB xs n=false:=hasB_not fun j y h=>ha j y (by rw[hk'];exact (List.getElem?_eq_some_iff.1 h).1) h
   subst hk'
   simp[hlt,hn]
theorem l13Has_con (xs:List Int) (n:Int) (hx:xs.length≤1099511627776):ConC Try.prog 68 [ints xs,.d (.int .i64 n)] (.d (.bool (hasB xs n))):=by
 refine con_of (by kernel_rfl) Try.func68 rfl rfl rfl ?_
 simp
 refine aw_loopU [true,true,false,false,false,true,false,false,false,false,false,false,false,false,false,false,false,false] (fun k:Nat=>k≤xs.length∧∀ (j:Nat) y,j<k→xs[j]? = some y→y≠n) (fun k:Nat=>[(5,.d (.int .i64 k))]) (fun k:Nat=>[]) (fun k:Nat=>xs.length - k) 0 ?_ ?_ ?_
 · exact⟨by omega,fun j y h=>by omega⟩
 · exact⟨[],by simp⟩
 rintro I S μ hI hS hμ k ⟨hk,ha⟩
 by_cases hlt:k<xs.length
 · have hx1:xs[k]? = some xs[k]:=List.getElem?_eq_getElem hlt
   have w2:IntKind.i64.wrap ((k:Int)+1)=(k:Int)+1:=wrap_id (by omega) (by omega)
   have hd:decide (k<xs.length)=true:=decide_eq_true hlt
   generalize xs[k]=v at *
   by_cases hv:v=n
   · subst hv
     simp[hd,hx1,hasB_at hx1]
   · simp[hd,hx1,hv,show (v==n)=false by simpa using hv,w2]
     exact round_of hI hS hμ (k+1) ⟨by omega,fun j y hj h=>by
      by_cases e:j=k
      · subst e;rw[hx1] at h;cases h;exact hv
      · exact ha j y (by omega) h⟩ (by omega) ⟨[],by simp⟩
 · have hk':k=xs.length:=by omega
   have hn:hasB xs n=false:=hasB_not fun j y h=>ha j y (by rw[hk'];exact (List.getElem?_eq_some_iff.1 h).1) h
   subst hk'
   simp[hlt,hn]
def ascB (xs:List Int):Bool:=(List.range (xs.length - 1)).all fun i=>decide (atI xs i<atI xs ((i:Int)+1))
theorem atI_get {xs:List Int} {k:Nat} {y:Int} (h:xs[k]? = some y):atI xs k=y:=by simp[atI,h]
theorem iAsc_con (xs:List Int) (hx:xs.length≤1099511627776):ConC Try.prog 64 [ints xs] (.d (.bool (ascB xs))):=by
 refine con_of (by kernel_rfl) Try.func64 rfl rfl rfl ?_
 simp
 refine aw_loopU [true,false,false,true,false,false,false,false,false,false,false,false,false,false,false,false,false,false,false,false] (fun p:Nat=>(p+1≤xs.length∨p=0)∧∀ j:Nat,j<p→atI xs j<atI xs ((j:Int)+1)) (fun p:Nat=>[(3,.d (.int .i64 ((p:Int)+1)))]) (fun p:Nat=>[]) (fun p:Nat=>xs.length - p) 0 ?_ ?_ ?_
 · exact⟨.inr rfl,fun j h=>by omega⟩
 · exact⟨[],by simp⟩
 rintro I S μ hI hS hμ p ⟨hk,ha⟩
 by_cases hlt:p+1<xs.length
 · have hx1:xs[p+1]? = some xs[p+1]:=List.getElem?_eq_getElem hlt
   have hx0:xs[p]? = some (xs[p]'(by omega)):=List.getElem?_eq_getElem (by omega)
   have w0:IntKind.i64.wrap (p:Int)=(p:Int):=wrap_id (by omega) (by omega)
   have w2:IntKind.i64.wrap ((p:Int)+1+1)=(p:Int)+1+1:=wrap_id (by omega) (by omega)
   have ht:((p:Int)+1).toNat=p+1:=by omega
   have hd:decide (p+1<xs.length)=true:=decide_eq_true hlt
   have hd0:decide (p<xs.length)=true:=decide_eq_true (by omega)
   have e0:=atI_get hx0
   have e1':atI xs ((p:Int)+1)=xs[p+1]:=by unfold atI;rw[ht,hx1];rfl
   generalize xs[p+1]=v at *
   generalize xs[p]'(by omega)=u at *
   by_cases hv:u<v
   · simp[hd,hd0,hx1,hx0,w0,ht,show (p:Int)+1<xs.length by omega,show ¬ (p:Int)+1<0 by omega]
     refine⟨by kernel_rfl,?_⟩
     simp[show ¬ v≤u by omega,hv,w2]
     exact round_of hI hS hμ (p+1) ⟨by omega,fun j hj=>by
      by_cases e:j=p
      · subst e;rw[e0,e1'];exact hv
      · exact ha j (by omega)⟩ (by omega) ⟨[],by simp⟩
   · have hno:ascB xs=false:=by
      unfold ascB
      rw[Bool.eq_false_iff,ne_eq,List.all_eq_true]
      intro h
      have:=h p (List.mem_range.2 (by omega))
      rw[e0,e1'] at this
      simp at this
      omega
     simp[hd,hd0,hx1,hx0,w0,ht,show (p:Int)+1<xs.length by omega,hno,show ¬ (p:Int)+1<0 by omega]
     refine⟨by kernel_rfl,?_⟩
     simp[show v≤u by omega,hv]
 · have hyes:ascB xs=true:=List.all_eq_true.2 fun j hj=>decide_eq_true (ha j (by have:=List.mem_range.1 hj;omega))
   simp[show ¬ (p:Int)+1<xs.length by omega,hyes]
def firstG (x:GrD):Nat:=1+x.1.toNat+x.2.1.length
def andAt (x:GrD) (v:Nat):AndD:=(x.2.2.1[v - firstG x]?).getD (0,0)
def kidA (x:GrD) (v:Nat):Nat:=(andAt x v).1.toNat / 2
def kidB (x:GrD) (v:Nat):Nat:=(andAt x v).2.toNat / 2
abbrev mconeG (x:GrD):=mcone (firstG x) (kidA x) (kidB x)
abbrev escG (x:GrD):=esc (firstG x) (kidA x) (kidB x)
theorem grN_eq (x:GrD):grN x=firstG x+x.2.2.1.length:=rfl
theorem and_at {x:GrD} (hok:netOkB x=true) {v:Nat} (h1:firstG x≤v) (h2:v<grN x) :
 x.2.2.1[v - firstG x]? = some (andAt x v)∧0≤(andAt x v).1∧0≤(andAt x v).2∧(andAt x v).1 / 2=(kidA x v:Int)∧(andAt x v).2 / 2=(kidB x v:Int)∧kidA x v<v∧kidB x v<v:=by
 obtain⟨⟨n1,n2,n3,n4,n5,n6⟩,-,-,o3⟩:=netOk_of hok
 rw[grN_eq] at h2
 have hl:v - firstG x<x.2.2.1.length:=by omega
 have ha:x.2.2.1[v - firstG x]? = some (andAt x v):=by unfold andAt;rw[List.getElem?_eq_getElem hl];rfl
 have ho:=o3 _ _ ha
 have hf:(firstG x:Int)=1+x.1+x.2.1.length:=by unfold firstG;omega
 refine⟨ha,ho.1.1,ho.2.1,?_,?_,?_,?_⟩
 · unfold kidA;omega
 · unfold kidB;omega
 · unfold kidA;omega
 · unfold kidB;omega
theorem kids_lt {x:GrD} (hok:netOkB x=true):∀ v,firstG x≤v→v<grN x→kidA x v<v∧kidB x v<v:=fun v h1 h2=>(and_at hok h1 h2).2.2.2.2.2
theorem map_setB {s:List Bool} {v:Nat} {b:Bool}:(s.map (e1 eBool)).set v [.bool b]=(s.set v b).map (e1 eBool):=by rw[List.map_set];rfl
abbrev vgr (x:GrD):V:=.agg [.d (.int .i64 x.1),.d (eSl 68 enSeq x.2.1),.d (eSl 56 enAnd x.2.2.1),.d (eSl 3 (e1 eInt) x.2.2.2)]
set_option maxRecDepth 100000 in
theorem markCone_conT (x:GrD) (hx:fitGr 1048576 x) (hok:netOkB x=true):∀ (n v:Nat) (s:List Bool),v<n→v<grN x→s.length=grN x →
 ConT Try.prog 58 [vgr x,.d (.int .i64 v),.ref 0] [.arr 4 true (s.map (e1 eBool))] (.tup []) [.arr 4 true ((mconeG x n v s).map (e1 eBool))]
 | 0,v,s,h,_,_=>by omega
 | n+1,v,s,hn,hv,hl=>by
   have ih:=markCone_conT x hx hok n
   obtain⟨⟨n1,n2,n3,n4,n5,n6⟩,-,-,-⟩:=netOk_of hok
   have hF:(firstG x:Int)=1+x.1+x.2.1.length:=by unfold firstG;omega
   have hN:=grN_eq x
   have hgl:grN x≤400:=by unfold firstG at hN;omega
   have hat:=getB_at (s:=s) (v:=v) (by omega)
   refine conT_ofD (by kernel_rfl) Try.func58 rfl rfl rfl (by simp[laters,Later]) (by simp[lives,Slot.live]) ?_
   simp[enGr,hat]
   rcases Bool.eq_false_or_eq_true (getB s v) with hs|hs
   · simp[hs]
     exact⟨[0],by simp[mcone,hs]⟩
   have hset:=map_setB (s:=s) (v:=v) (b:=true)
   have hl1:(s.set v true).length=grN x:=by simp[hl]
   have hm:mconeG x (n+1) v s=if v<firstG x then s.set v true else mconeG x n (kidB x v) (mconeG x n (kidA x v) (s.set v true)):=by
    simp[mconeG,mcone,hs]
   rw[hm]
   have w1:IntKind.i64.wrap ((v:Int) - (1+x.1+x.2.1.length))=(v:Int) - (1+x.1+x.2.1.length):=wrap_id (by omega) (by omega)
   generalize s.set v true=s1 at *
   simp[hs,hset]
   refine call_step (firstAnd_con x ⟨n1,n2⟩ n3) ?_
   simp[w1]
   by_cases hf:v<firstG x
   · simp[show ¬ 1+x.1+(x.2.1.length:Int)≤v by omega,show (v:Int)<1+x.1+x.2.1.length by omega,hf]
     exact⟨[0],by simp⟩
   obtain⟨ha,a1,a2,a3,a4,a5,a6⟩:=and_at hok (by omega) hv
   have ht:((v:Int) - (1+x.1+x.2.1.length)).toNat=v - firstG x:=by omega
   have hL:(enAnd (andAt x v)).length=2:=rfl
   have hn0:¬ (v:Int) - (1+x.1+x.2.1.length)<0:=by omega
   have q1:IntKind.i64.wrap ((andAt x v).1.tdiv 2)=(kidA x v:Int):=by rw[Int.tdiv_eq_ediv_of_nonneg a1,a3];exact wrap_id (by omega) (by omega)
   have q2:IntKind.i64.wrap ((andAt x v).2.tdiv 2)=(kidB x v:Int):=by rw[Int.tdiv_eq_ediv_of_nonneg a2,a4];exact wrap_id (by omega) (by omega)
   simp[show 1+x.1+(x.2.1.length:Int)≤v by omega,show ¬ (v:Int)<1+x.1+x.2.1.length by omega,hf]
   refine drawD_of 9 (by kernel_rfl) ?_
   simp[ha,ht,hL,hn0,enAnd,q1]
   refine callT_step (ih (kidA x v) s1 (by omega) (by omega) hl1) [] [0] (by simp) ?_
   simp
   refine drawD_of 9 (by kernel_rfl) ?_
   simp[ha,ht,hL,hn0,enAnd,q2]
   refine callT_step (ih (kidB x v) (mconeG x n (kidA x v) s1) (by omega) (by omega) (by rw[mcone_len,hl1])) [] [0] (by simp) ?_
   simp
   exact⟨[0],by simp⟩
def marksL (s:List Bool) (k:Nat):List Int:=((List.range k).filter (getB s)).map fun i:Nat=>(i:Int)
def marksI (s:List Bool):List Int:=marksL s s.length
theorem marksL_succ {s:List Bool} {k:Nat}:marksL s (k+1)=if getB s k=true then marksL s k++[(k:Int)] else marksL s k:=by
 unfold marksL
 rw[List.range_succ,List.filter_append]
 by_cases h:getB s k=true
 · simp[h]
 · simp[h]
theorem marksL_len {s:List Bool} {k:Nat}:(marksL s k).length≤k:=by
 unfold marksL
 have:=List.length_filter_le (getB s) (List.range k)
 simpa using this
theorem marks_has {s:List Bool} {v:Nat}:hasB (marksI s) v=getB s v:=by
 unfold hasB marksI marksL
 have e:((v:Int)∈((List.range s.length).filter (getB s)).map fun i:Nat=>(i:Int))↔getB s v=true:=by
  rw[List.mem_map]
  constructor
  · rintro⟨a,ha,hv⟩
    have:a=v:=by omega
    subst this
    exact (List.mem_filter.1 ha).2
  · intro h
    refine⟨v,List.mem_filter.2 ⟨List.mem_range.2 ?_,h⟩,rfl⟩
    unfold getB at h
    cases hs:s[v]? with
    | none=>rw[hs] at h;cases h
    | some b=>exact (List.getElem?_eq_some_iff.1 hs).1
 by_cases h:getB s v=true
 · rw[decide_eq_true (e.2 h),h]
 · rw[decide_eq_false (fun hm=>h (e.1 hm))];simpa using h
theorem marked_con (s:List Bool) (hs:s.length≤1048576):ConC Try.prog 84 [bools s] (ints (marksI s)):=by
 refine con_of (by kernel_rfl) Try.func84 rfl rfl rfl ?_
 simp
 refine aw_loopN [false,false,false,true,false,false,true,true,true,false,false,false,false,false,false,false,false,false,false,false] (fun k:Nat=>k≤s.length) (fun k:Nat=>[(3,nilR (marksL s k).length 0),(8,.d (.int .i64 k))]) (fun k:Nat=>nilS (marksL s k).length (marksL s k)) (fun k:Nat=>s.length - k) 0 ?_ ?_ ?_
 · simp
 · exact⟨[],by simp[nilR,nilS,marksL]⟩
 rintro I S μ hI hS hμ k hk
 by_cases hlt:k<s.length
 · have hat:=getB_at (s:=s) (v:=k) hlt
   have w2:IntKind.i64.wrap ((k:Int)+1)=(k:Int)+1:=wrap_id (by omega) (by omega)
   have hd:decide (k<s.length)=true:=decide_eq_true hlt
   have hnx:=marksL_succ (s:=s) (k:=k)
   have hll:=marksL_len (s:=s) (k:=k)
   generalize marksL s k=ms at *
   rcases Bool.eq_false_or_eq_true (getB s k) with hb|hb
   · rw[hb,if_pos rfl] at hnx
     by_cases hk0:ms=[]
     · subst hk0
       simp[nilR,nilS,hd,hat,hb]
       refine app_data vt_el_26 rfl (by simp) rfl (by simp) (by simp) (by first | (simp;done)|(simp;omega)) (by simp[flatP,flatD]) ?_
       simp[w2]
       exact round_of hI hS hμ (k+1) (by omega) (by omega) ⟨[1],by simp[nilR,nilS,hnx]⟩
     · simp[nilR,nilS,hd,hat,hb,hk0]
       refine app_data vt_el_26 rfl (by simp) rfl (by simp) (by simp) (by first | (simp;done)|(simp;omega)) (by simp[flatP,flatD]) ?_
       simp[w2]
       exact round_of hI hS hμ (k+1) (by omega) (by omega) ⟨[2],by simp[nilR,nilS,hnx]⟩
   · rw[hb,if_neg (by simp)] at hnx
     simp[nilR,nilS,hd,hat,hb,w2]
     by_cases hk0:ms=[]
     · exact round_of hI hS hμ (k+1) (by omega) (by omega) ⟨[],by simp[nilR,nilS,hnx,hk0]⟩
     · exact round_of hI hS hμ (k+1) (by omega) (by omega) ⟨[0],by simp[nilR,nilS,hnx,hk0]⟩
 · have hk':k=s.length:=by omega
   subst hk'
   have hm:marksI s=marksL s s.length:=rfl
   rw[hm]
   generalize marksL s s.length=ms at *
   by_cases hk0:ms=[]
   · subst hk0
     simp[nilR,nilS,hlt]
   · simp[nilR,nilS,hlt,hk0]
def coneL (x:GrD) (v:Nat):List Bool:=mconeG x (v+1) v (List.replicate (grN x) false)
theorem coneL_len {x:GrD} {v:Nat}:(coneL x v).length=grN x:=by simp[coneL]
theorem cone_con (x:GrD) (v:Nat) (hx:fitGr 1048576 x) (hok:netOkB x=true) (hv:v<grN x):ConC Try.prog 65 [igr x,.d (.int .i64 v)] (ints (marksI (coneL x v))):=by
 obtain⟨⟨n1,n2,n3,n4,n5,n6⟩,-,-,-⟩:=netOk_of hok
 have hN:=grN_eq x
 have hF:(firstG x:Int)=1+x.1+x.2.1.length:=by unfold firstG;omega
 have hgl:grN x≤400:=by unfold firstG at hN;omega
 have hcl:=coneL_len (x:=x) (v:=v)
 have hNi:(1+x.1+(x.2.1.length:Int)+(x.2.2.1.length:Int)).toNat=grN x:=by omega
 have hr:List.replicate (grN x) [D.bool false]=(List.replicate (grN x) false).map (e1 eBool):=by rw[List.map_replicate];rfl
 have hm:=markCone_conT x hx hok (v+1) v (List.replicate (grN x) false) (by omega) hv (by simp)
 have hc:mconeG x (v+1) v (List.replicate (grN x) false)=coneL x v:=rfl
 rw[hc] at hm
 refine con_of (by kernel_rfl) Try.func65 rfl rfl rfl ?_
 simp[enGr]
 refine call_step (iNodeCnt_con x ⟨n1,n2⟩ n3 n4) ?_
 simp
 refine⟨⟨by omega,by omega⟩,?_⟩
 rw[hNi,hr]
 refine callT_step (hm) [] [1] (by simp) ?_
 simp
 refine call_step (marked_con (coneL x v) (by omega)) ?_
 simp
theorem isAnd_con (x:GrD) (v:Nat) (h1:0≤x.1∧x.1≤20) (h2:x.2.1.length≤12) (h3:x.2.2.1.length≤300):ConC Try.prog 80 [igr x,.d (.int .i64 v)] (.d (.bool (decide (firstG x≤v)&&decide (v<grN x)))):=by
 have hF:(firstG x:Int)=1+x.1+x.2.1.length:=by unfold firstG;omega
 have hN:=grN_eq x
 refine con_of (by kernel_rfl) Try.func80 rfl rfl rfl ?_
 simp[enGr]
 refine call_step (firstAnd_con x h1 h2) ?_
 simp
 by_cases hf:firstG x≤v
 · simp[show 1+x.1+(x.2.1.length:Int)≤v by omega]
   refine call_step (iNodeCnt_con x h1 h2 h3) ?_
   simp
   by_cases hn:v<grN x
   · simp[hf,hn,show (v:Int)<1+x.1+x.2.1.length+x.2.2.1.length by omega]
   · simp[hf,hn,show ¬ (v:Int)<1+x.1+x.2.1.length+x.2.2.1.length by omega]
 · simp[hf,show ¬ 1+x.1+(x.2.1.length:Int)≤v by omega,show (v:Int)<1+x.1+x.2.1.length by omega]
theorem esc_succ {x:GrD} {cut:List Int} {n v:Nat} {s:List Bool}:escG x cut (n+1) v s=if v=0∨getB s v=true∨(v:Int)∈cut then (false,s) else if v<firstG x then (true,s.set v true) else
 if (escG x cut n (kidA x v) (s.set v true)).1=true then (true,(escG x cut n (kidA x v) (s.set v true)).2) else escG x cut n (kidB x v) (escG x cut n (kidA x v) (s.set v true)).2:=rfl
set_option maxRecDepth 100000 in
theorem escapes_conT (x:GrD) (cut:List Int) (hx:fitGr 1048576 x) (hok:netOkB x=true) (hc:cut.length≤1048576):∀ (n v:Nat) (s:List Bool),v<n→v<grN x→s.length=grN x →
 ConT Try.prog 66 [vgr x,.d (.int .i64 v),.d (eSl 3 (e1 eInt) cut),.ref 0] [.arr 4 true (s.map (e1 eBool))] (.d (.bool (escG x cut n v s).1)) [.arr 4 true ((escG x cut n v s).2.map (e1 eBool))]
 | 0,v,s,h,_,_=>by omega
 | n+1,v,s,hn,hv,hl=>by
   have ih:=escapes_conT x cut hx hok hc n
   obtain⟨⟨n1,n2,n3,n4,n5,n6⟩,-,-,-⟩:=netOk_of hok
   have hF:(firstG x:Int)=1+x.1+x.2.1.length:=by unfold firstG;omega
   have hN:=grN_eq x
   have hgl:grN x≤400:=by unfold firstG at hN;omega
   have hat:=getB_at (s:=s) (v:=v) (by omega)
   refine conT_ofD (by kernel_rfl) Try.func66 rfl rfl rfl (by simp[laters,Later]) (by simp[lives,Slot.live]) ?_
   by_cases h0:v=0
   · subst h0
     simp
     exact⟨[0],by simp[esc]⟩
   have h0':((v:Int)==0)=false:=by simp;omega
   rcases Bool.eq_false_or_eq_true (getB s v) with hs|hs
   · simp[h0',hat,hs,h0]
     exact⟨[0],by simp[esc,hs]⟩
   simp[h0',hat,hs,h0]
   refine call_step (hasInt_con cut v (by omega)) ?_
   simp
   rcases Bool.eq_false_or_eq_true (hasB cut v) with hb|hb
   · have hm:(v:Int)∈cut:=of_decide_eq_true hb
     simp[hb]
     exact⟨[0],by simp[esc,hm]⟩
   have hm:¬ (v:Int)∈cut:=of_decide_eq_false hb
   have hset:=map_setB (s:=s) (v:=v) (b:=true)
   have hl1:(s.set v true).length=grN x:=by simp[hl]
   have hE:=esc_succ (x:=x) (cut:=cut) (n:=n) (v:=v) (s:=s)
   rw[if_neg (by simp[h0,hs,hm])] at hE
   rw[hE]
   generalize s.set v true=s1 at *
   simp[hb,hset,hat,hs]
   refine call_step (isAnd_con x v ⟨n1,n2⟩ n3 n4) ?_
   simp
   by_cases hf:v<firstG x
   · simp[hf,show ¬ firstG x≤v by omega]
     exact⟨[0],by simp⟩
   obtain⟨ha,a1,a2,a3,a4,a5,a6⟩:=and_at hok (by omega) hv
   have w1:IntKind.i64.wrap ((v:Int) - (1+x.1+x.2.1.length))=(v:Int) - (1+x.1+x.2.1.length):=wrap_id (by omega) (by omega)
   have ht:((v:Int) - (1+x.1+x.2.1.length)).toNat=v - firstG x:=by omega
   have hL:(enAnd (andAt x v)).length=2:=rfl
   have hn0:¬ (v:Int) - (1+x.1+x.2.1.length)<0:=by omega
   have q1:IntKind.i64.wrap ((andAt x v).1.tdiv 2)=(kidA x v:Int):=by rw[Int.tdiv_eq_ediv_of_nonneg a1,a3];exact wrap_id (by omega) (by omega)
   have q2:IntKind.i64.wrap ((andAt x v).2.tdiv 2)=(kidB x v:Int):=by rw[Int.tdiv_eq_ediv_of_nonneg a2,a4];exact wrap_id (by omega) (by omega)
   have hA:=ih (kidA x v) s1 (by omega) (by omega) hl1
   have lA:(escG x cut n (kidA x v) s1).2.length=s1.length:=esc_len _ _ _
   simp[hf,show firstG x≤v by omega,hv,show ¬ grN x≤v by omega]
   refine drawD_of 9 (by kernel_rfl) ?_
   simp
   refine call_step (firstAnd_con x ⟨n1,n2⟩ n3) ?_
   simp[w1,ha,ht,hL,hn0,enAnd,q1]
   generalize escG x cut n (kidA x v) s1=p at *
   obtain⟨r,s2⟩:=p
   cases r with
   | true =>
     refine callT_step (hA) [] [0] (by simp) ?_
     simp
     exact⟨[0],by simp⟩
   | false =>
     refine callT_step (hA) [] [0] (by simp) ?_
     simp[q2]
     have lA':s2.length=s1.length:=lA
     refine callT_step (ih (kidB x v) s2 (by omega) (by omega) (by omega)) [] [0] (by simp) ?_
     simp
     exact⟨[0],by simp⟩
end Go.Proofs.Ytakohcpfjkcfdaa
