/-
  Marks over slices of integers, by abstract walks.
  Conditions: those typed in each theorem.
-/
import Derived.Test.YtklhofpjjbfckaaNp
namespace Go.Proofs.Ytklhofpjjbfckaa
open Go.RowKit Go.ChangeShapes Go.WideShapes
set_option linter.unusedVariables false
set_option linter.unusedSimpArgs false
attribute [local simp ↓] condG_true condG_false condB_true condB_false
attribute [local simp] AWp_skip AWp_region_t AWp_region_d AWp_region_f still_mk AWp_seq AWp_cond condV_bool condB AWp_block AWp_exit AWp_ret
attribute [local simp] AOps_nil AOp_move AOp_assign AOp_pick AOp_binOp AOp_unOp AOp_convert AOp_len AOp_max AOp_min AOp_indexAddr AOp_load
attribute [local simp] AOp_fieldAddr AOp_field AOp_extract AOp_nilCheck AOp_build AOp_alloc AOp_box AOp_call AOp_store AOp_append AOp_buildSlice nextB_some
attribute [local simp] nextB_none adoptO adoptC AOp_makeSlice AOp_slice AOp_makeFunc AOp_guard guardD_some guardG_bool guardG_undef nextO_some nextS_some
attribute [local simp] nextZ_some nextL_some nextM_some nextT_some sliceO sliceL sliceT partO partV boundV funcO pickO
attribute [local simp] convO lenO maxO minO idxO extO nilO buildO litO litC makeO chunks
attribute [local simp] fillV placeOf thenA inBlockA St.get St.put St.eval ofCell evalT abin_add abin_sub abin_mul
attribute [local simp] abin_quo abin_rem abin_and abin_or abin_xor abin_andNot abin_shl abin_shr abin_shlu abin_eql abin_eqp abin_neq
attribute [local simp] abin_lss abin_leq abin_gtr abin_geq abin_eqlb abin_neqb aun pickV lenV intOf? indexV takeD
attribute [local simp] takeV loadV fieldAddrV fieldV ofX presD presDs pres presAll cellsV V.cell storeV
attribute [local simp] freezeC putAt kill takeC plains plainV scalarV nat_neg keepT sets eSl e1
attribute [local simp] e2 e3 e4 eInt eBool abinS_d abinS_agg abinS nilEq abin_eqb AOp_makeMap AOp_lookup
attribute [local simp] AOp_mapUpdate lookG_some updG_some mapV kyOf vlOf lookV vlV buildA afterCall inst inst1
attribute [local simp] inst1s instD instDs RetA resVs resV gives give1 give1s Le isPin leSlots
attribute [local simp] leS leTmps leV le0 le0s ren ren0 renS ren0s frame enterT afterT_some
attribute [local simp] afterC_some lives Slot.live arrsOk viewV view0 renT rens renSs setAll List.range'_succ RetT
attribute [local simp] RetW joinV leT AOpsE_nil AOpsE_cons AOpsT_nil AOpsT_cons isCallT isFnO callOf callVC_fn condC_true
attribute [local simp] condC_false beginT_mk thenT_mk pickE pickT isT loose namesOf namesV names1 names0 stableN
attribute [local simp] sameAt Op.operands Call.operands
def mkK (xs:List Int) (k:Int):Nat→List Int
 | 0=>xs
 | j+1=>(mkK xs k j).set j (k+j)
theorem mkK_len {xs:List Int} {k:Int}:∀ j,(mkK xs k j).length=xs.length
 | 0=>rfl
 | j+1=>by simp[mkK,mkK_len j]
def markL (xs:List Int) (k:Int):List Int:=mkK xs k xs.length
theorem markL_len {xs:List Int} {k:Int}:(markL xs k).length=xs.length:=mkK_len _
attribute [local simp] markL_len
theorem markIntS_conT (xs:List Int) (k:Int) (hx:xs.length≤1152921504606846976) (hk:0≤k∧k≤1152921504606846976) :
 ConT Try.prog 103 [.ref 0,.d (.int .i64 k)] [.arr 3 true (xs.map (e1 eInt))] (.d (.int .i64 (k+xs.length))) [.arr 3 true ((markL xs k).map (e1 eInt))]:=by
 refine conT_of (by kernel_rfl) Try.func103 rfl rfl rfl (by simp[laters,Later]) (by simp[lives,Slot.live]) ?_
 simp
 refine aw_loopU [true,true,false,false,false,true,false,false,false,false,false,false,false,false,false,false,false,false,false] (fun j:Nat=>j≤xs.length) (fun j:Nat=>[(1,.d (.int .i64 (k+j))),(5,.d (.int .i64 j))]) (fun j:Nat=>[(0,.arr 3 true ((mkK xs k j).map (e1 eInt)))]) (fun j:Nat=>xs.length - j) 0 ?_ ?_ ?_
 · simp
 · exact⟨[0],by simp[mkK]⟩
 rintro I S μ hI hS hμ j hj
 have hl:=mkK_len (xs:=xs) (k:=k) j
 have hn:mkK xs k (j+1)=(mkK xs k j).set j (k+j):=rfl
 by_cases hlt:j<xs.length
 · have w2:IntKind.i64.wrap ((j:Int)+1)=(j:Int)+1:=wrap_id (by omega) (by omega)
   have w3:IntKind.i64.wrap (k+(j:Int)+1)=k+((j:Int)+1):=by rw[wrap_id (by omega) (by omega)];omega
   generalize mkK xs k j=lv at *
   have hd:decide (j<xs.length)=true:=decide_eq_true hlt
   have hr:lv[j]? = some (atI lv j):=by have:=at_read (lv:=lv) (k:=j) (by omega);simpa using this
   simp[hl,hd,hr,w2,w3]
   exact round_of hI hS hμ (j+1) (by omega) (by omega) ⟨[0],by simp[hn,←setI]⟩
 · have hj':j=xs.length:=by omega
   subst hj'
   have hm:mkK xs k xs.length=markL xs k:=rfl
   simp[hl,hlt,hm]
   exact⟨[0],by simp⟩
theorem row_flat {P:Program} {w:World} {t:TypeId} {es:List (List D)} {A:Option Nat} {c:Nat} {F:List Nat} (h:RowOf P w (Owns P w) t es A c F) (hf:∀ e∈es,∀ cs f,Owns P w e cs f→f=[]):F=A.toList:=by
 obtain⟨_,_,⟨rfl,_,rfl⟩|⟨g,cur,Fs,rfl,_,_,hl,_,ho,rfl⟩⟩:=h
 · rfl
 · have:Fs.flatten=[]:=by
    rw[List.flatten_eq_nil_iff]
    intro f hfm
    obtain⟨i,hi,rfl⟩:=List.mem_iff_getElem.1 hfm
    have he:es[i]? = some (es[i]'(by omega)):=List.getElem?_eq_getElem _
    exact hf _ (List.getElem_mem _) _ _ (ho i _ _ he (List.getElem?_eq_getElem hi))
   rw[this]
   rfl
theorem owns_int {P:Program} {w:World} {x:Int} {cs:List Value} {f:List Nat} (h:Owns P w [.int .i64 x] cs f):f=[]:=by
 cases h with
 | int _ _ h=>cases h;rfl
theorem ints_flat {P:Program} {w:World} {xs:List Int}:∀ e∈xs.map (e1 eInt),∀ cs f,Owns P w e cs f→f=[]:=by
 intro e he cs f h
 obtain⟨x,_,rfl⟩:=List.mem_map.1 he
 exact owns_int h
theorem conM_flat {P:Program} {f:FuncId} {t:TypeId} {es es':List (List D)} {k n:Int} (hlen:es'.length=es.length) (hes:∀ (w:World),∀ e∈es,∀ cs f,Owns P w e cs f→f=[]) (hes':∀ (w:World),∀ e∈es',∀ cs f,Owns P w e cs f→f=[])
 (h:ConT P f [.ref 0,.d (.int .i64 k)] [.arr t true es] (.d (.int .i64 n)) [.arr t true es']):ConM P f t es k n es':=by
 refine⟨h.1,hlen,fun w A c F hrow hF=>?_⟩
 have hFA:=row_flat hrow (hes _)
 have hm:MemR P ⟨w,top [(A,c)] [.arr t true es],(·∈[F].flatten),[(A,c)],fun _=>True,false,fun _ _ _=>trivial⟩ [(A,c)] [.arr t true es] w [F]:=by
  refine⟨Kept.refl _ _,fun b hb=>.inl hb,rfl,rfl,by simpa using hF,fun g hg=>.inl hg,fun i hd hi=>⟨hi,?_⟩,fun s x hd G h1 h2 h3=>?_⟩
  · match i with
    | 0=>simp
    | i+1=>simp
  · match s with
    | 0=>simp at h1 h2 h3;subst h1 h2 h3;exact hrow
    | s+1=>simp at h1
 refine (h.2.2 w [(A,c)] [F] (fun _=>True) (fun _ _ _=>trivial) [.slice (hdr A) es.length c,.int .i64 k] hm rfl fun i x v hx hv=>?_).mono ?_
 · match i with
   | 0=>simp only[List.getElem?_cons_zero,Option.some.injEq] at hx hv;subst hx hv;exact .ref rfl rfl
   | 1=>simp only[List.getElem?_cons_succ,List.getElem?_cons_zero,Option.some.injEq] at hx hv;subst hx hv;exact .d (.int _ _)
   | i+2=>simp at hx
 · rintro e w' ⟨v,φ',Fs',rfl,hm',hv⟩
   obtain⟨p1,p2⟩:=hm'.pin 0 (A,c) rfl
   have hl:0<Fs'.length:=by rw[hm'.Flen];simp
   have hF':Fs'[0]? = some Fs'[0]:=List.getElem?_eq_getElem hl
   have hrow':RowOf P w' (Owns P w') t es' A c Fs'[0]:=hm'.sr 0 _ (A,c) _ rfl p1 hF'
   have e2:=row_flat hrow' (hes' _)
   rw[e2,←hFA] at hrow'
   refine⟨by cases hv with|d h=>cases h;rfl,hrow',hm'.only.os,hm'.only.tape,hm'.only.output,hm'.only.size,fun b hb hbF=>hm'.only.block b hb ?_⟩
   rintro⟨s,x,c',q1,_,q3⟩
   match s with
   | 0 =>
     simp at q3
     rw[hFA,q3.1] at hbF
     simp at hbF
   | s+1=>simp at q1
theorem conM_ints {P:Program} {f:FuncId} {t:TypeId} {xs ys:List Int} {k n:Int} (hlen:ys.length=xs.length)
 (h:ConT P f [.ref 0,.d (.int .i64 k)] [.arr t true (xs.map (e1 eInt))] (.d (.int .i64 n)) [.arr t true (ys.map (e1 eInt))]):ConM P f t (xs.map (e1 eInt)) k n (ys.map (e1 eInt)) :=
 conM_flat (by simpa using hlen) (fun _=>ints_flat) (fun _=>ints_flat) h
theorem markIntS_conM (xs:List Int) (k:Int) (hx:xs.length≤1152921504606846976) (hk:0≤k∧k≤1152921504606846976):ConM Try.prog 103 3 (xs.map (e1 eInt)) k (k+xs.length) ((markL xs k).map (e1 eInt)) :=
 conM_ints markL_len (markIntS_conT xs k hx hk)
theorem mkK_at {xs:List Int} {k:Int}:∀ j i,i<j→j≤xs.length→(mkK xs k j)[i]? = some (k+i)
 | 0,i,h,_=>by omega
 | j+1,i,h,hj=>by
   unfold mkK
   by_cases e:j=i
   · subst e
     rw[List.getElem?_set_self (by rw[mkK_len];omega)]
   · rw[List.getElem?_set_ne e]
     exact mkK_at j i (by omega) (by omega)
theorem heldIntS_con (xs:List Int) (k:Int) (hx:xs.length≤1048576) (hk:0≤k∧k≤1152921504606846976):ConC Try.prog 104 [ints (markL xs k),.d (.int .i64 k)] (.d (.int .i64 (k+xs.length))):=by
 have hl:=markL_len (xs:=xs) (k:=k)
 have hat:∀ j,j<xs.length→(markL xs k)[j]? = some (k+j):=fun j h=>mkK_at xs.length j h (Nat.le_refl _)
 generalize markL xs k=ms at *
 refine con_of (by kernel_rfl) Try.func104 rfl rfl rfl ?_
 simp
 refine aw_loopU [true,true,false,false,false,true,false,false,false,false,false,false,false,false,false,false,false,false,false,false,false] (fun j:Nat=>j≤xs.length) (fun j:Nat=>[(1,.d (.int .i64 (k+j))),(5,.d (.int .i64 j))]) (fun j:Nat=>[]) (fun j:Nat=>xs.length - j) 0 ?_ ?_ ?_
 · simp
 · exact⟨[],by simp⟩
 rintro I S μ hI hS hμ j hj
 by_cases hlt:j<xs.length
 · have w2:IntKind.i64.wrap ((j:Int)+1)=(j:Int)+1:=wrap_id (by omega) (by omega)
   have w3:IntKind.i64.wrap (k+(j:Int)+1)=k+((j:Int)+1):=by rw[wrap_id (by omega) (by omega)];omega
   have hd:decide (j<xs.length)=true:=decide_eq_true hlt
   have hr:=hat j hlt
   simp[hl,hd,hr,w2,w3]
   exact round_of hI hS hμ (j+1) (by omega) (by omega) ⟨[],by simp⟩
 · have hj':j=xs.length:=by omega
   subst hj'
   simp[hl,hlt]
end Go.Proofs.Ytklhofpjjbfckaa
