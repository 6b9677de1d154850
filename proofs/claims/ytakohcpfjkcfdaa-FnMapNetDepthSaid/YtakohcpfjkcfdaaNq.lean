/-
  Levels, use and cost of a mapping, by abstract walks: both sides.
  Conditions: those typed in each theorem.
-/
import Derived.Test.YtakohcpfjkcfdaaNn
namespace Go.Proofs.Ytakohcpfjkcfdaa
open Go.RowKit Go.ChangeShapes Go.WideShapes
set_option linter.unusedVariables false
set_option linter.unusedSimpArgs false
attribute [local simp ↓] condG_true condG_false condB_true condB_false
attribute [local simp] AWp_skip AWp_region_t AWp_region_d AWp_region_f still_mk AWp_seq AWp_cond condV_bool condB AWp_block AWp_exit AWp_ret
attribute [local simp] AOps_nil AOp_move AOp_assign AOp_pick AOp_binOp AOp_unOp AOp_convert AOp_len AOp_max AOp_min AOp_indexAddr AOp_load
attribute [local simp] AOp_fieldAddr AOp_field AOp_extract AOp_nilCheck AOp_build AOp_alloc AOp_box AOp_call AOp_store AOp_append AOp_buildSlice nextB_some
attribute [local simp] nextB_none adoptO adoptC AOp_makeSlice AOp_slice AOp_makeFunc AOp_guard guardD_some guardG_bool guardG_undef nextO_some nextS_some
attribute [local simp] nextZ_some nextL_some nextM_some nextT_some sliceO sliceL sliceT partO partV boundV funcO pickO
attribute [local simp] convO lenO maxO minO idxO extO nilO buildO litO litC makeO chunks
attribute [local simp] fillV placeOf thenA inBlockA St.get St.put St.eval ofCell evalT abin_add abin_sub abin_mul
attribute [local simp] abin_quo abin_rem abin_and abin_or abin_xor abin_andNot abin_shl abin_shr abin_shlu abin_eql abin_eqp abin_neq
attribute [local simp] abin_lss abin_leq abin_gtr abin_geq abin_eqlb abin_neqb aun pickV lenV intOf? indexV takeD
attribute [local simp] takeV loadV fieldAddrV fieldV ofX presD presDs pres presAll cellsV V.cell storeV
attribute [local simp] freezeC putAt kill takeC plains plainV scalarV nat_neg keepT sets eSl e1
attribute [local simp] e2 e3 e4 eInt eBool abinS_d abinS_agg abinS nilEq abin_eqb AOp_makeMap AOp_lookup
attribute [local simp] AOp_mapUpdate lookG_some updG_some mapV kyOf vlOf lookV vlV buildA afterCall inst inst1
attribute [local simp] inst1s instD instDs RetA resVs resV gives give1 give1s Le isPin leSlots
attribute [local simp] leS leTmps leV le0 le0s ren ren0 renS ren0s frame enterT afterT_some
attribute [local simp] afterC_some lives Slot.live arrsOk viewV view0 renT rens renSs setAll List.range'_succ RetT
attribute [local simp] RetW joinV leT AOpsE_nil AOpsE_cons AOpsT_nil AOpsT_cons isCallT isFnO callOf callVC_fn condC_true
attribute [local simp] condC_false beginT_mk thenT_mk pickE pickT isT loose namesOf namesV names1 names0 stableN
attribute [local simp] sameAt Op.operands Call.operands
attribute [local simp] mcone_len esc_len
def mx (a b:Int):Int:=if b > a then b else a
theorem mx_if (a b:Int):(if a<b then b else a)=mx a b:=rfl
theorem mx_le {a b m:Int} (h1:a≤m) (h2:b≤m):mx a b≤m:=by unfold mx;split<;>omega
theorem mx_ge {a b:Int} (h:0≤a):0≤mx a b:=by unfold mx;split<;>omega
def mxK (lv c:List Int):Nat→Int
 | 0=>0
 | j+1=>mx (mxK lv c j) (atI lv (atI c j))
theorem mxK_bnd {lv c:List Int} {m:Int} (h0:0≤m) (h:∀ y,atI lv y≤m):∀ j,0≤mxK lv c j∧mxK lv c j≤m
 | 0=>⟨by simp[mxK],h0⟩
 | j+1=>by
   have ih:=mxK_bnd (lv:=lv) (c:=c) h0 h j
   exact⟨mx_ge ih.1,mx_le ih.2 (h _)⟩
def lvM (x:GrD) (cs:List RowD):Nat→List Int
 | 0=>List.replicate (grN x) 0
 | i+1=>(lvM x cs i).set (firstG x+i) (1+mxK (lvM x cs i) ((cs[i]?).getD []) ((cs[i]?).getD []).length)
def levelsL (x:GrD) (cs:List RowD):List Int:=lvM x cs cs.length
theorem lvM_len {x:GrD} {cs:List RowD}:∀ i,(lvM x cs i).length=grN x
 | 0=>by simp[lvM]
 | i+1=>by unfold lvM;rw[List.length_set,lvM_len i]
theorem atI_set {lv:List Int} {k:Nat} {v y:Int}:atI (lv.set k v) y=atI lv y∨atI (lv.set k v) y=v:=by
 unfold atI
 by_cases h:k=y.toNat
 · subst h
   by_cases hl:y.toNat<lv.length
   · rw[List.getElem?_set_self hl];exact .inr rfl
   · rw[List.getElem?_eq_none (by simp;omega),List.getElem?_eq_none (by omega)];exact .inl rfl
 · rw[List.getElem?_set_ne h];exact .inl rfl
theorem lvM_bnd {x:GrD} {cs:List RowD}:∀ (i:Nat) (y:Int),0≤atI (lvM x cs i) y∧atI (lvM x cs i) y≤i
 | 0,y=>by
   unfold lvM atI
   rw[List.getElem?_replicate]
   split<;>simp
 | i+1,y=>by
   have ih:=lvM_bnd (x:=x) (cs:=cs) i
   have hm:=mxK_bnd (lv:=lvM x cs i) (c:=(cs[i]?).getD []) (m:=i) (by omega) (fun y=>(ih y).2) ((cs[i]?).getD []).length
   unfold lvM
   rcases atI_set (lv:=lvM x cs i) (k:=firstG x+i) (v:=1+mxK (lvM x cs i) ((cs[i]?).getD []) ((cs[i]?).getD []).length) (y:=y) with h|h
   · rw[h];have:=ih y;omega
   · rw[h];omega
def dpK (lv rs:List Int):Nat→Int
 | 0=>0
 | j+1=>mx (dpK lv rs j) (atI lv (atI rs j / 2))
def depthL (x:GrD) (cs:List RowD):Int:=dpK (levelsL x cs) (grRoots x) (grRoots x).length
def rtM (s:List Bool) (rs:List Int):Nat→List Bool
 | 0=>s
 | j+1=>(rtM s rs j).set (atI rs j / 2).toNat true
def ctM (s:List Bool) (c:List Int):Nat→List Bool
 | 0=>s
 | j+1=>(ctM s c j).set (atI c j).toNat true
theorem rtM_len {s:List Bool} {rs:List Int}:∀ j,(rtM s rs j).length=s.length
 | 0=>rfl
 | j+1=>by simp[rtM,rtM_len j]
theorem ctM_len {s:List Bool} {c:List Int}:∀ j,(ctM s c j).length=s.length
 | 0=>rfl
 | j+1=>by simp[ctM,ctM_len j]
def usM (x:GrD) (cs:List RowD):Nat→List Bool
 | 0=>rtM (List.replicate (grN x) false) (grRoots x) (grRoots x).length
 | j+1=>if getB (usM x cs j) (grN x - 1 - j)=true then ctM (usM x cs j) ((cs[cs.length - 1 - j]?).getD []) ((cs[cs.length - 1 - j]?).getD []).length else usM x cs j
theorem usM_len {x:GrD} {cs:List RowD}:∀ j,(usM x cs j).length=grN x
 | 0=>by unfold usM;rw[rtM_len];simp
 | j+1=>by
   unfold usM
   split
   · rw[ctM_len,usM_len j]
   · exact usM_len j
def usedL (x:GrD) (cs:List RowD):List Bool:=(usM x cs cs.length).drop (firstG x)
theorem usedL_len {x:GrD} {cs:List RowD}:(usedL x cs).length=x.2.2.1.length:=by
 unfold usedL
 rw[List.length_drop,usM_len,grN_eq]
 omega
def cnK (u:List Bool):Nat→Nat
 | 0=>0
 | j+1=>if getB u j=true then cnK u j+1 else cnK u j
def edK (u:List Bool) (cs:List RowD):Nat→Nat
 | 0=>0
 | j+1=>if getB u j=true then edK u cs j+((cs[j]?).getD []).length else edK u cs j
theorem cnK_le {u:List Bool}:∀ j,cnK u j≤j
 | 0=>Nat.le_refl _
 | j+1=>by have:=cnK_le (u:=u) j;unfold cnK;split<;>omega
theorem edK_le {u:List Bool} {cs:List RowD} {m:Nat} (h:∀ (k:Nat) (c:RowD),cs[k]? = some c→c.length≤m):∀ j,edK u cs j≤j*m
 | 0=>by simp[edK]
 | j+1=>by
   have ih:=edK_le (u:=u) h j
   have hm:((cs[j]?).getD []).length≤m:=by
    cases hc:cs[j]? with
    | none=>simp
    | some c=>exact h j c hc
   have e:(j+1)*m=j*m+m:=Nat.succ_mul j m
   unfold edK
   split<;>omega
def costL (x:GrD) (cs:List RowD):Int×Int×Int:=(cnK (usedL x cs) x.2.2.1.length,edK (usedL x cs) cs x.2.2.1.length,depthL x cs)
set_option maxRecDepth 100000 in
theorem iLevels_con (x:GrD) (cs:List RowD) (hx:fitGr 1048576 x) (hc:fitRw 1048576 cs) (hm:mapOkB x cs=true):ConC Try.prog 26 [igr x,irows cs] (ints (levelsL x cs)):=by
 obtain⟨hok,hl,hcs⟩:=mapOk_of hm
 obtain⟨⟨n1,n2,n3,n4,n5,n6⟩,-,-,-⟩:=netOk_of hok
 obtain⟨hF,hgl,hNi,hno⟩:=ok_sizes hok
 have hN:=grN_eq x
 have hNt:(1+x.1+(x.2.1.length:Int)+(x.2.2.1.length:Int)).toNat=grN x:=by omega
 refine con_of (by kernel_rfl) Try.func26 rfl rfl rfl ?_
 simp[enGr]
 refine call_step (iNodeCnt_con x ⟨n1,n2⟩ n3 n4) ?_
 simp
 refine⟨by omega,?_⟩
 rw[hNt]
 refine aw_loopU [false,false,true,false,false,true,false,false,false,false,false,false,false,false,true,true,true,false,false,false,false,false,false,false,false,false,false,false,false,false,false,false,false,false,false,false,false,false,false,false,false,false,false,false] (fun i:Nat=>i≤cs.length) (fun i:Nat=>[(16,.d (.int .i64 i))]) (fun i:Nat=>[(1,.arr 3 true ((lvM x cs i).map (e1 eInt)))]) (fun i:Nat=>cs.length - i) 0 ?_ ?_ ?_
 · simp
 · exact⟨[0,1],by simp[lvM]⟩
 rintro I S μ hI hS hμ i hi
 have hll:=lvM_len (x:=x) (cs:=cs) i
 by_cases hlt:i<cs.length
 · have hx1:cs[i]? = some cs[i]:=List.getElem?_eq_getElem hlt
   have hL:(enRow cs[i]).length=1:=rfl
   have w2:IntKind.i64.wrap ((i:Int)+1)=(i:Int)+1:=wrap_id (by omega) (by omega)
   have w3:IntKind.i64.wrap (1+x.1+(x.2.1.length:Int)+(i:Int))=((firstG x+i:Nat):Int):=by rw[wrap_id (by omega) (by omega)];omega
   have hd:decide (i<cs.length)=true:=decide_eq_true hlt
   obtain⟨-,hc4,hcr⟩:=hcs i _ hx1
   have hnx:lvM x cs (i+1)=(lvM x cs i).set (firstG x+i) (1+mxK (lvM x cs i) cs[i] cs[i].length):=by simp[lvM,hx1]
   have hbn:=lvM_bnd (x:=x) (cs:=cs) i
   generalize lvM x cs i=lv at *
   generalize cs[i]=c at *
   have hmb:=mxK_bnd (lv:=lv) (c:=c) (m:=i) (by omega) (fun y=>(hbn y).2)
   simp[hd,hx1,hL,enRow]
   refine aw_loopU [false,false,true,false,false,true,true,false,true,false,false,false,false,false,true,true,true,false,false,false,false,true,true,true,false,false,false,false,false,false,false,false,false,false,false,false,false,false,false,false,false,false,false,false] (fun j:Nat=>j≤c.length) (fun j:Nat=>[(8,.d (.int .i64 (1+mxK lv c j))),(23,.d (.int .i64 j))]) (fun j:Nat=>[]) (fun j:Nat=>c.length - j) 0 ?_ ?_ ?_
   · simp
   · exact⟨[0,1],by simp[mxK]⟩
   rintro I2 S2 μ2 hI2 hS2 hμ2 j hj
   by_cases hlt2:j<c.length
   · have hy1:c[j]? = some c[j]:=List.getElem?_eq_getElem hlt2
     have w4:IntKind.i64.wrap ((j:Int)+1)=(j:Int)+1:=wrap_id (by omega) (by omega)
     have hd2:decide (j<c.length)=true:=decide_eq_true hlt2
     have hyr:=hcr _ (List.getElem_mem hlt2)
     have hn2:mxK lv c (j+1)=mx (mxK lv c j) (atI lv c[j]):=by simp[mxK,atI_get hy1]
     generalize c[j]=y at *
     have hr:=at_read (lv:=lv) (k:=y) (by omega)
     have hby:=hbn y
     generalize atI lv y=q at *
     have w5:IntKind.i64.wrap (1+q)=1+q:=wrap_id (by omega) (by omega)
     have hmx:(if mxK lv c j<q then 1+q else 1+mxK lv c j)=1+mxK lv c (j+1):=by rw[hn2];unfold mx;split<;>rfl
     simp[hd2,hy1,hr,w5,w4,show ¬ y<0 by omega,hmx]
     exact round_of hI2 hS2 hμ2 (j+1) (by omega) (by omega) ⟨[0,1],by simp⟩
   · have hj':j=c.length:=by omega
     subst hj'
     obtain⟨v,hv⟩:∃ v,v=firstG x+i:=⟨_,rfl⟩
     rw[←hv] at w3 hnx
     have hw:lv[v]? = some (lv[v]'(by omega)):=List.getElem?_eq_getElem _
     simp[hlt2]
     refine call_step (firstAnd_con x ⟨n1,n2⟩ n3) ?_
     simp[w3,hw,w2]
     exact round_of hI hS hμ (i+1) (by omega) (by omega) ⟨[0,1],by simp[hnx]⟩
 · have hi':i=cs.length:=by omega
   subst hi'
   have hf:lvM x cs cs.length=levelsL x cs:=rfl
   rw[hf]
   simp[hlt]
end Go.Proofs.Ytakohcpfjkcfdaa
