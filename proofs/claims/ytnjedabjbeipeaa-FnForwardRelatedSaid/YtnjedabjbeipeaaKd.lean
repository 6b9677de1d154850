/-
  Links from a net to what pruning and forward retiming make of it: the relation holds. Plain lemmas.
  Conditions: those typed in each theorem.
-/
import Derived.Test.YtnjedabjbeipeaaKc
namespace Go.Proofs.Ytnjedabjbeipeaa
open Go.RowKit Go.ChangeShapes Go.WideShapes
set_option linter.unusedVariables false
set_option linter.unusedSimpArgs false
theorem relB_mk {a b:GrD} {ls:List LinkD} {T:List Int→List Int} (hok:netOkB a=true) (hfl:flopsB a=true) (h1:linksOkB a b ls=true) (h2:a.1+a.2.1.length≤10) (hT:∀ st:List Int,st.length=a.2.1.length→bitsI st→lkL ls st=T st) (h3:startL b=T (startL a))
 (h4:∀ (st:List Int) (inp:Int),st.length=a.2.1.length→bitsI st→stepG b (T st) inp=(T (stepG a st inp).1,(stepG a st inp).2)):relB a b ls=true:=by
 have hs:=hT _ (start_len (x:=a)) (start_bits hok hfl)
 unfold relB
 rw[h1,decide_eq_true h2,hs,h3]
 simp only[Bool.true_and,Bool.and_eq_true]
 refine⟨decide_eq_true rfl,List.all_eq_true.2 fun n _=>?_⟩
 unfold relAtB
 have e:=hT _ (stX_len (a:=a) (x:=n)) stX_bits
 have h:=h4 (stX a n) n stX_len stX_bits
 have e2:=hT (stepG a (stX a n) n).1 (nxt_len stX_len) (nxt_bits hfl stX_bits)
 rw[e,h,e2]
 simp[sameB]
theorem lk_one {st:List Int} {i:Int} (hb:bitsI st):lkF st ([i],2)=atI st i:=by
 have h:=atI_bit hb i
 show shr64 2 (packL [atI st i]) % 2=_
 rw[pack_one]
 rcases (by omega:atI st i=0∨atI st i=1) with e|e<;>rw[e]<;>decide
theorem lkP_st {st is:List Int} (hb:bitsI st):lkL (lkP is) st=is.map (atI st):=by
 unfold lkL lkP
 rw[List.map_map]
 exact List.map_congr_left fun i _=>lk_one hb
theorem fits_one {n i:Int} (h:0≤i∧i<n):linkFits n ([i],2)=true:=by
 unfold linkFits
 rw[Bool.and_eq_true]
 exact⟨show tableOkB 1 2=true by decide,List.all_eq_true.2 fun y hy=>by rw[List.mem_singleton.1 hy];exact rng_iff.2 (by omega)⟩
theorem keptG_in2 {x:GrD}:∀ y∈keptG x,0≤y∧y<x.2.1.length:=fun y hy=>by
 unfold keptG at hy
 split at hy
 · exact keptK_in _ y hy
 · simp at hy
theorem kept_len {x:GrD} (hok:netOkB x=true):(keptG x).length=(pruneG x).2.1.length:=by
 rw[kept_eq hok,keptK_sq (pl:=plP x (obsB x))]
 rfl
theorem prune_rel {x:GrD} (hok:netOkB x=true) (hfl:flopsB x=true) (h10:x.1+x.2.1.length≤10):relB x (pruneG x) (lkP (keptG x))=true:=by
 refine relB_mk (T:=kst x) hok hfl ?_ h10 (fun st hl hb=>lkP_st hb) (pr_start hok) fun st inp hl hb=>pr_step hok hl hb
 unfold linksOkB
 rw[hok,pruneG_ok hok,hfl,pruneG_flops hok hfl]
 simp only[Bool.true_and,Bool.and_eq_true,decide_eq_true_eq]
 refine⟨⟨⟨rfl,?_⟩,?_⟩,List.all_eq_true.2 fun l hl=>?_⟩
 · show _=(x.2.2.2.map _).length
   rw[List.length_map]
 · unfold lkP
   rw[List.length_map]
   exact kept_len hok
 · obtain⟨i,hi,rfl⟩:=List.mem_map.1 hl
   exact fits_one (keptG_in2 i hi)
theorem lk_two {x:GrD} {k:Int} {st:List Int} (hb:bitsI st):lkF st ([flopL x (andK x k).1,flopL x (andK x k).2],fwdMask (andK x k))=vF x k st:=by
 have h1:=atI_bit hb (flopL x (andK x k).1)
 have h2:=atI_bit hb (flopL x (andK x k).2)
 show shr64 (fwdMask (andK x k)) (packL [atI st (flopL x (andK x k).1),atI st (flopL x (andK x k).2)]) % 2=_
 unfold vF litS fwdMask
 generalize atI st (flopL x (andK x k).1)=s at *
 generalize atI st (flopL x (andK x k).2)=t at *
 rcases (by omega:(andK x k).1 % 2=0∨(andK x k).1 % 2=1) with e1|e1<;>rcases (by omega:(andK x k).2 % 2=0∨(andK x k).2 % 2=1) with e2|e2<;>rw[e1,e2] <;>
  rcases (by omega:s=0∨s=1) with rfl|rfl<;>rcases (by omega:t=0∨t=1) with rfl|rfl<;>decide
theorem fwd_rel {x:GrD} {k:Int} (h:fwdOkB x k=true) (hfl:flopsB x=true) (h10:x.1+x.2.1.length≤10):relB x (pruneG (fwdG x k)) (fwdLk x k)=true:=by
 obtain⟨hfr,hfi,hfv⟩:=fwdOk_of h
 obtain⟨hok,hk,fa,fb,h12⟩:=frontB_of hfr
 have hof:=fwdG_ok h
 have hff:flopsB (fwdG x k)=true:=by
  refine List.all_eq_true.2 fun s hs=>?_
  rcases List.mem_append.1 (show s∈x.2.1.map (mapSeq (fwdImp x k).1)++[(0,fwdInit x k,[fwdV x k])] from hs) with hs|hs
  · obtain⟨q,hq,rfl⟩:=List.mem_map.1 hs
    exact decide_eq_true (show q.1=0 from flops_of hfl q hq)
  · rw[List.mem_singleton.1 hs]
    rfl
 have hlf:(fwdG x k).2.1.length=x.2.1.length+1:=by
  show (x.2.1.map (mapSeq (fwdImp x k).1)++[(0,fwdInit x k,[fwdV x k])]).length=_
  simp
 have hLk:fwdLk x k=(keptG (fwdG x k)).map (lkOf x k):=if_pos h
 have hPb:∀ st:List Int,bitsI st→bitsI (stP x k st):=fun st hb v hv=>by
  rcases List.mem_append.1 hv with hv|hv
  · exact hb v hv
  · rw[List.mem_singleton.1 hv];exact vF_01
 have hPl:∀ st:List Int,(stP x k st).length=st.length+1:=fun st=>by unfold stP;simp
 rw[hLk]
 refine relB_mk (T:=fun st=>kst (fwdG x k) (stP x k st)) hok hfl ?_ h10 (fun st hl hb=>?_) ?_ fun st inp hl hb=>?_
 · unfold linksOkB
   rw[hok,pruneG_ok hof,hfl,pruneG_flops hof hff]
   simp only[Bool.true_and,Bool.and_eq_true,decide_eq_true_eq]
   refine⟨⟨⟨rfl,?_⟩,?_⟩,List.all_eq_true.2 fun l hl=>?_⟩
   · show _=((x.2.2.2.map _).map _).length
     rw[List.length_map,List.length_map]
   · rw[List.length_map]
     exact kept_len hof
   · obtain⟨i,hi,rfl⟩:=List.mem_map.1 hl
     have hr:=keptG_in2 i hi
     unfold lkOf
     split
     · exact fits_one (by omega)
     · have ra:=flopL_rng (x:=x) (l:=(andK x k).1)
       have rb:=flopL_rng (x:=x) (l:=(andK x k).2)
       unfold linkFits
       rw[Bool.and_eq_true]
       refine⟨?_,List.all_eq_true.2 fun y hy=>?_⟩
       · show tableOkB 2 (fwdMask (andK x k))=true
         unfold fwdMask
         rcases (by omega:(andK x k).1 % 2=0∨(andK x k).1 % 2=1) with e1|e1<;>rcases (by omega:(andK x k).2 % 2=0∨(andK x k).2 % 2=1) with e2|e2<;>rw[e1,e2]<;>decide
       · simp at hy
         rcases hy with rfl|rfl
         · exact rng_iff.2 (by omega)
         · exact rng_iff.2 (by omega)
 · unfold lkL kst
   rw[List.map_map]
   refine List.map_congr_left fun i hi=>?_
   have hr:=keptG_in2 i hi
   show lkF st (lkOf x k i)=atI (stP x k st) i
   unfold lkOf
   split
   · rename_i hlt
     rw[lk_one hb]
     unfold stP
     rw[atI_append hr.1 (by omega)]
   · rename_i hge
     rw[lk_two hb]
     obtain rfl:i=(x.2.1.length:Int):=by omega
     unfold stP atI
     rw[Int.toNat_natCast,List.getElem?_append_right (by omega),hl,Nat.sub_self]
     rfl
 · rw[pr_start hof,fwd_start h]
 · have e:=fwd_step (inp:=inp) h hl hb
   have h2:=pr_step (inp:=inp) hof (st:=stP x k st) (by rw[hPl,hlf,hl]) (hPb st hb)
   rw[e] at h2
   exact h2
end Go.Proofs.Ytnjedabjbeipeaa
