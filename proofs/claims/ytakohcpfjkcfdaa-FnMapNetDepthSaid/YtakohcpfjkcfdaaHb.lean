/-
  Keys of the program's maps; what a search has reached, as a map and as a queue. Plain lemmas.
  Conditions: those typed in each theorem.
-/
import Derived.Test.YtakohcpfjkcfdaaV6
import Derived.Test.YtakohcpfjkcfdaaFa
namespace Go.Proofs.Ytakohcpfjkcfdaa
open Go.RowKit Go.ChangeShapes Go.WideShapes
set_option linter.unusedVariables false
set_option linter.unusedSimpArgs false
theorem laid_out:laidOutB Try.prog=true:=by kernel_rfl
theorem law_step:WideMaps.KeyLaw Try.prog 84:=deep_law_laid laid_out (m:=2) (by omega) (of_decide_eq_true (by kernel_rfl)) (by kernel_rfl) (by rw[Try.underlying84])
theorem law_pair:WideMaps.KeyLaw Try.prog 102:=deep_law_laid laid_out (m:=2) (by omega) (of_decide_eq_true (by kernel_rfl)) (by kernel_rfl) (by rw[Try.underlying102])
theorem many_types:∃ n,Try.prog.types.size+1=n+2:=⟨Try.prog.types.size - 1,by have:1≤Try.prog.types.size:=of_decide_eq_true (by kernel_rfl);omega⟩
theorem wf_i64 {a:Int} (h:-9223372036854775808≤a∧a≤9223372036854775807):(Lit.int .i64 a).wf=true:=by
 simp[Lit.wf,IntKind.min,IntKind.max,IntKind.signed,IntKind.bits]
 omega
theorem key_step {a:Int} {b:Bool} (h:-9223372036854775808≤a∧a≤9223372036854775807):KeyIn Try.prog 79 (a,.inl b):=by
 refine⟨_,_,Try.underlying79,law_step,?_⟩
 obtain⟨n,hn⟩:=many_types
 have h1:Try.prog.keyType 84=true:=by kernel_rfl
 have hw:=wf_i64 h
 unfold keyOf kyVal
 rw[Try.underlying84]
 simp only[h1,hn]
 have hf:(Value.agg #[.int .i64 a,.bool b]).formed Try.prog 84=true:=by simp[Value.formed,Try.underlying84]
 simp[hf,Value.cells,Program.keyLits,Try.underlying84,hw]
theorem key_pair {a b:Int} (h:-9223372036854775808≤a∧a≤9223372036854775807) (h':-9223372036854775808≤b∧b≤9223372036854775807):KeyIn Try.prog 75 (a,.inr b):=by
 refine⟨_,_,Try.underlying75,law_pair,?_⟩
 obtain⟨n,hn⟩:=many_types
 have h1:Try.prog.keyType 102=true:=by kernel_rfl
 have hw:=wf_i64 h
 have hw':=wf_i64 h'
 unfold keyOf kyVal
 rw[Try.underlying102]
 simp only[h1,hn]
 have hf:(Value.agg #[.int .i64 a,.int .i64 b]).formed Try.prog 102=true:=by simp[Value.formed,Try.underlying102]
 simp[hf,Value.cells,Program.keyLits,Try.underlying102,hw,hw',List.range_succ]
def kyT (t:Nat):Ky:=(((t / 2:Nat):Int),.inl (decide (t % 2=0)))
def vlT (z:Int):Vl:=(z / 2,some (decide (z % 2=0)))
def mpE (es:Es):List (Ky×Vl):=es.map fun p=>(kyT p.1,vlT p.2)
def rowT (t:Nat):List D:=[.int .i64 ((t / 2:Nat):Int),.bool (decide (t % 2=0))]
def quE (es:Es) (q:Nat):List (List D):=(es.drop q).map fun p=>rowT p.1
theorem kyT_inj {s t:Nat} (h:kyT s=kyT t):s=t:=by
 unfold kyT at h
 simp only[Prod.mk.injEq,Sum.inl.injEq,decide_eq_decide] at h
 omega
theorem mpE_get {es:Es} {t:Nat}:getM (mpE es) (kyT t)=(srcE es t).map vlT:=by
 unfold getM mpE srcE
 induction es with
 | nil=>rfl
 | cons p es ih =>
   simp only[List.map_cons,List.find?_cons]
   by_cases h:p.1=t
   · subst h;simp
   · have h1:¬ kyT p.1=kyT t:=fun e=>h (kyT_inj e)
     have h2:(p.1==t)=false:=by simpa using h
     rw[decide_eq_false h1,h2]
     exact ih
theorem mpE_app {es:Es} {t:Nat} {z:Int}:mpE (es++[(t,z)])=mpE es++[(kyT t,vlT z)]:=by simp[mpE]
theorem quE_app {es:Es} {t:Nat} {z:Int} {q:Nat} (h:q≤es.length):quE (es++[(t,z)]) q=quE es q++[rowT t]:=by
 unfold quE
 rw[List.drop_append_of_le_length h]
 simp
def mpM (ms:Ms):List (Ky×Vl):=ms.map fun e=>(((e.1.1:Int),.inr (e.1.2:Int)),(e.2,none))
theorem mpM_get {ms:Ms} {c p:Nat}:getM (mpM ms) ((c:Int),.inr (p:Int))=((ms.find? fun e=>e.1==(c,p)).map (·.2)).map fun z=>(z,none):=by
 unfold getM mpM
 induction ms with
 | nil=>rfl
 | cons e ms ih =>
   simp only[List.map_cons,List.find?_cons]
   by_cases h:e.1=(c,p)
   · have:(e.1==(c,p))=true:=by simp[h]
     rw[this,h];simp
   · have h1:¬ (((e.1.1:Int),(Sum.inr (e.1.2:Int):Bool ⊕ Int)):Ky)=((c:Int),.inr (p:Int)):=fun q=>h (by
      simp only[Prod.mk.injEq,Sum.inr.injEq] at q
      apply Prod.ext<;>simp<;>omega)
     have h2:(e.1==(c,p))=false:=by simpa using h
     rw[decide_eq_false h1,h2]
     exact ih
theorem mpM_val {ms:Ms} {c p:Nat}:((getM (mpM ms) ((c:Int),.inr (p:Int))).getD (0,none))=(edM ms c p,none):=by
 rw[mpM_get]
 unfold edM
 cases (ms.find? fun e=>e.1==(c,p))<;>rfl
theorem mpM_bump {ms:Ms} {c p:Nat} {d:Int} (hn:(ms.map (·.1)).Nodup):setM (mpM ms) ((c:Int),.inr (p:Int)) (edM ms c p+d,none)=mpM (bumpM ms c p d):=by
 unfold setM bumpM
 rw[mpM_get]
 cases hf:(ms.find? fun e=>e.1==(c,p)) with
 | none =>
   have he:edM ms c p=0:=by unfold edM;rw[hf];rfl
   simp[mpM,he]
 | some e =>
   have he:edM ms c p=e.2:=by unfold edM;rw[hf];rfl
   have hk:e.1=(c,p):=by have:=List.find?_some hf;simpa using this
   have hm:=List.mem_of_find?_eq_some hf
   simp only[Option.map_some,Option.isSome_some,if_true,mpM,List.map_map]
   refine List.map_congr_left fun g hg=>?_
   simp only[Function.comp]
   by_cases h:g.1=(c,p)
   · have hge:g=e:=by
      obtain⟨i,hi,rfl⟩:=List.getElem_of_mem hg
      obtain⟨j,hj,rfl⟩:=List.getElem_of_mem hm
      have h1:(ms.map (·.1))[i]? = some (c,p):=by rw[List.getElem?_map,List.getElem?_eq_getElem hi];simp[h]
      have h2:(ms.map (·.1))[j]? = some (c,p):=by rw[List.getElem?_map,List.getElem?_eq_getElem hj];simp[hk]
      obtain⟨a1,a2⟩:=List.getElem?_eq_some_iff.1 h1
      have:i=j:=(List.getElem?_inj a1 hn).1 (by rw[h1,h2])
      subst this;rfl
     subst hge
     simp[h,he]
   · have h1:¬ (((g.1.1:Int),(Sum.inr (g.1.2:Int):Bool ⊕ Int)):Ky)=((c:Int),.inr (p:Int)):=fun q=>h (by
      simp only[Prod.mk.injEq,Sum.inr.injEq] at q
      apply Prod.ext<;>simp<;>omega)
     have h2:(g.1==(c,p))=false:=by simpa using h
     rw[if_neg h1,h2]
     rfl
theorem bumpM_nodup {ms:Ms} {c p:Nat} {d:Int} (hn:(ms.map (·.1)).Nodup):((bumpM ms c p d).map (·.1)).Nodup:=by
 unfold bumpM
 split
 · rw[List.map_map]
   have:(ms.map ((fun x:(Nat×Nat)×Int=>x.1) ∘ fun e=>if (e.1==(c,p))=true then (e.1,e.2+d) else e))=ms.map (·.1):=by
    refine List.map_congr_left fun e _=>?_
    simp only[Function.comp]
    split<;>rfl
   rw[this];exact hn
 · rename_i h
   rw[List.map_append,List.nodup_append]
   refine⟨hn,by simp,fun a ha b hb e=>?_⟩
   obtain⟨q,hq,rfl⟩:=List.mem_map.1 ha
   simp at hb
   refine h ?_
   rw[List.find?_isSome]
   exact⟨q,hq,by simp[e,hb]⟩
end Go.Proofs.Ytakohcpfjkcfdaa
/-
  Searching for a way, by the program: a visit. By abstract walks.
  Conditions: those typed in each theorem.
-/
namespace Go.Proofs.Ytakohcpfjkcfdaa
open Go.RowKit Go.ChangeShapes Go.WideShapes
set_option linter.unusedVariables false
set_option linter.unusedSimpArgs false
attribute [local simp ↓] condG_true condG_false condB_true condB_false
attribute [local simp] AWp_skip AWp_region_t AWp_region_d AWp_region_f still_mk AWp_seq AWp_cond condV_bool condB AWp_block AWp_exit AWp_ret
attribute [local simp] AOps_nil AOp_move AOp_assign AOp_pick AOp_binOp AOp_unOp AOp_convert AOp_len AOp_max AOp_min AOp_indexAddr AOp_load
attribute [local simp] AOp_fieldAddr AOp_field AOp_extract AOp_nilCheck AOp_build AOp_alloc AOp_box AOp_call AOp_store AOp_append AOp_buildSlice nextB_some
attribute [local simp] nextB_none adoptO adoptC AOp_makeSlice AOp_slice AOp_makeFunc AOp_guard guardD_some guardG_bool guardG_undef nextO_some nextS_some
attribute [local simp] nextZ_some nextL_some nextM_some nextT_some sliceO sliceL sliceT partO partV boundV funcO pickO
attribute [local simp] convO lenO maxO minO idxO extO nilO buildO litO litC makeO chunks
attribute [local simp] fillV placeOf thenA inBlockA St.get St.put St.eval ofCell evalT abin_add abin_sub abin_mul
attribute [local simp] abin_quo abin_rem abin_and abin_or abin_xor abin_andNot abin_shl abin_shr abin_shlu abin_eql abin_eqp abin_neq
attribute [local simp] abin_lss abin_leq abin_gtr abin_geq abin_eqlb abin_neqb aun pickV lenV intOf? indexV takeD
attribute [local simp] takeV loadV fieldAddrV fieldV ofX presD presDs pres presAll cellsV V.cell storeV
attribute [local simp] freezeC putAt kill takeC plains plainV scalarV nat_neg keepT sets eSl e1
attribute [local simp] e2 e3 e4 eInt eBool abinS_d abinS_agg abinS nilEq abin_eqb AOp_makeMap AOp_lookup
attribute [local simp] AOp_mapUpdate lookG_some updG_some mapV kyOf vlOf lookV vlV buildA afterCall inst inst1
attribute [local simp] inst1s instD instDs RetA resVs resV gives give1 give1s Le isPin leSlots
attribute [local simp] leS leTmps leV le0 le0s ren ren0 renS ren0s frame enterT afterT_some
attribute [local simp] afterC_some lives Slot.live arrsOk viewV view0 renT rens renSs setAll List.range'_succ RetT
attribute [local simp] RetW joinV leT AOpsE_nil AOpsE_cons AOpsT_nil AOpsT_cons isCallT isFnO callOf callVC_fn condC_true
attribute [local simp] condC_false beginT_mk thenT_mk pickE pickT isT loose namesOf namesV names1 names0 stableN
attribute [local simp] sameAt Op.operands Call.operands
abbrev vStep (a:Int) (b:Bool):V:=.agg [.d (.int .i64 a),.d (.bool b)]
theorem key_T {t:Nat} (h:t≤9223372036854775807):KeyIn Try.prog 79 (kyT t):=key_step (by omega)
set_option maxRecDepth 100000 in
theorem visit_old (M:List (Ky×Vl)) (Q:List (List D)) (a c a':Int) (b d b':Bool) (ha:-9223372036854775808≤a∧a≤9223372036854775807) (h:getM M (a,.inl b)=some (a',some b')) :
 ConT Try.prog 81 [vStep a b,vStep c d,.ptr 0 0,.ptr 2 0] [.var 79 [.ref 1],.blk (.mp 79 M),.var 100 [.ref 3],.blk (.que 84 2 Q)]
  (.tup []) [.var 79 [.ref 1],.blk (.mp 79 M),.var 100 [.ref 3],.blk (.que 84 2 Q)]:=by
 have hk:=key_step (b:=b) ha
 refine conT_of (by kernel_rfl) Try.func81 rfl rfl rfl (by simp[laters,Later]) (by simp[lives,Slot.live]) ?_
 simp[hk,h]
 exact⟨[0,1,2,3],by simp⟩
set_option maxRecDepth 100000 in
theorem visit_new (M:List (Ky×Vl)) (Q:List (List D)) (a c:Int) (b d:Bool) (ha:-9223372036854775808≤a∧a≤9223372036854775807) (h:getM M (a,.inl b)=none) (hq:Q.length≤1048576) :
 ConT Try.prog 81 [vStep a b,vStep c d,.ptr 0 0,.ptr 2 0] [.var 79 [.ref 1],.blk (.mp 79 M),.var 100 [.ref 3],.blk (.que 84 2 Q)]
  (.tup []) [.var 79 [.ref 1],.blk (.mp 79 (M++[((a,.inl b),(c,some d))])),.var 100 [.ref 4],.dead,.blk (.que 84 2 (Q++[[.int .i64 a,.bool b]]))]:=by
 have hk:=key_step (b:=b) ha
 have hs:=setM_new (v:=(c,some d)) h
 refine conT_of (by kernel_rfl) Try.func81 rfl rfl rfl (by simp[laters,Later]) (by simp[lives,Slot.live]) ?_
 simp[hk,h,hs]
 refine app_que vt_el_100 (by exact rfl) (by simp) (by exact rfl) (by simp) (by simp[flatP,flatD]) (by first | (simp;done)|(simp;omega)) ?_
 simp
 exact⟨[0,1,2,3,8],by simp⟩
end Go.Proofs.Ytakohcpfjkcfdaa
