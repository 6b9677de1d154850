/-
  Nets as the draws make them. Plain lemmas.
  Conditions: those typed in each theorem.
-/
import Derived.Test.YtnjedabjbeipeaaDa
import Derived.Test.YtnjedabjbeipeaaNk
import Derived.Test.YtnjedabjbeipeaaUa
import Derived.Test.YtnjedabjbeipeaaNq
namespace Go.Proofs.Ytnjedabjbeipeaa
open Go.RowKit Go.ChangeShapes Go.WideShapes
set_option linter.unusedVariables false
set_option linter.unusedSimpArgs false
theorem andsFit_of {f:Int}:∀ {xs:List AndD} {k:Nat},(∀ (j:Nat) (a:AndD),xs[j]? = some a→(0≤a.1∧a.1<2*(f+(k+j:Nat)))∧0≤a.2∧a.2<2*(f+(k+j:Nat)))→andsFit f k xs=true
 | [],_,_=>rfl
 | a::xs,k,h=>by
   have h0:=h 0 a rfl
   unfold andsFit
   rw[Bool.and_eq_true]
   refine⟨?_,andsFit_of fun j b hb=>?_⟩
   · unfold andFits
     rw[Bool.and_eq_true]
     exact⟨rng_iff.2 (by omega),rng_iff.2 (by omega)⟩
   · have:=h (j+1) b (by simpa using hb)
     omega
theorem netOk_mk {x:GrD} (h1:0≤x.1∧x.1≤20) (h2:x.2.1.length≤12) (h3:x.2.2.1.length≤300) (h4:x.2.2.2.length≤16) (hs:∀ s∈x.2.1,seqOkB s=true) (ho:∀ y∈x.2.2.2,0≤y∧y<2*(grN x:Int)) (hi:∀ s∈x.2.1,∀ y∈s.2.2,0≤y∧y<2*(grN x:Int))
 (ha:andsFit (firstG x) 0 x.2.2.1=true):netOkB x=true:=by
 have hn:nodesG x=1+x.1+x.2.1.length+x.2.2.1.length:=by
  unfold nodesG
  rw[if_pos ⟨rng_iff.2 h1,h2,h3,h4⟩]
 have hN:(grN x:Int)=1+x.1+x.2.1.length+x.2.2.1.length:=by unfold grN;omega
 have hF:(firstG x:Int)=1+x.1+x.2.1.length:=by unfold firstG;omega
 unfold netOkB
 rw[hn]
 simp only[Bool.and_eq_true,decide_eq_true_eq]
 refine⟨⟨⟨by omega,List.all_eq_true.2 hs⟩,List.all_eq_true.2 fun y hy=>rng_iff.2 ?_⟩,by rw[←hF];exact ha⟩
 · rcases List.mem_append.1 hy with hy|hy
   · have:=ho y hy;omega
   · obtain⟨l,hl,hy⟩:=List.mem_flatten.1 hy
     obtain⟨s,hs',rfl⟩:=List.mem_map.1 hl
     have:=hi s hs' y hy;omega
def mnP (a b:Int):Int:=if b<a then b else a
def stA (k:Int) (p:Cur×List AndD):Cur×List AndD:=(belowC (belowC p.1 (mnP (k - 1) 14)) k,p.2++[(k - 1 - belowV p.1 (mnP (k - 1) 14),belowV (belowC p.1 (mnP (k - 1) 14)) k)])
def drA (F:Nat) (c:Cur):Nat→Cur×List AndD
 | 0=>(c,[])
 | i+1=>stA (2*((F:Int)+i)) (drA F c i)
def ramS (top:Int) (c:Cur):Cur×SeqD :=
 (belowC (belowC (belowC (belowC (belowC c 32) top) top) top) top,(1,belowV c 32,[belowV (belowC c 32) top,belowV (belowC (belowC c 32) top) top,belowV (belowC (belowC (belowC c 32) top) top) top,belowV (belowC (belowC (belowC (belowC c 32) top) top) top) top]))
def flpS (top:Int) (c:Cur):Cur×SeqD:=(belowC (belowC c 2) (mnP top 12),(0,belowV c 2,[top - 1 - belowV (belowC c 2) (mnP top 12)]))
def oneS (top:Int) (c:Cur):Cur×SeqD:=if onceV c 6=true then ramS top (belowC c 6) else flpS top (belowC c 6)
def drS (top:Int) (c:Cur):Nat→Cur×List SeqD
 | 0=>(c,[])
 | i+1=>((oneS top (drS top c i).1).1,(drS top c i).2++[(oneS top (drS top c i).1).2])
def drO (top:Int) (c:Cur):Nat→Cur×List Int
 | 0=>(c,[])
 | i+1=>(belowC (drO top c i).1 (mnP top 12),(drO top c i).2++[top - 1 - belowV (drO top c i).1 (mnP top 12)])
theorem drA_len {F:Nat} {c:Cur}:∀ i,(drA F c i).2.length=i
 | 0=>rfl
 | i+1=>by simp[drA,stA,drA_len i]
theorem drA_ok {F:Nat} {c:Cur} (h:c.ok):∀ i,(drA F c i).1.ok
 | 0=>h
 | i+1=>belowC_ok (belowC_ok (drA_ok h i))
theorem mnP_pos {a b:Int} (ha:0<a) (hb:0<b):0<mnP a b∧mnP a b≤a∧mnP a b≤b:=by unfold mnP;split<;>omega
theorem drA_at {F:Nat} {c:Cur} (hF:1≤F):∀ (i k:Nat) (a:AndD),(drA F c i).2[k]? = some a→(0≤a.1∧a.1<2*((F:Int)+k))∧0≤a.2∧a.2<2*((F:Int)+k)
 | 0,_,_,h=>by simp[drA] at h
 | i+1,k,a,h=>by
   have hl:=drA_len (F:=F) (c:=c) i
   simp only[drA,stA] at h
   by_cases hk:k<i
   · rw[List.getElem?_append_left (by omega)] at h
     exact drA_at hF i k a h
   · have hk':k=i:=by
      have:=(List.getElem?_eq_some_iff.1 h).1
      simp at this;omega
     subst hk'
     rw[List.getElem?_append_right (by omega),hl,Nat.sub_self] at h
     simp only[List.getElem?_cons_zero,Option.some.injEq] at h
     subst h
     have m:=mnP_pos (a:=2*((F:Int)+k) - 1) (b:=14) (by omega) (by omega)
     have b1:=belowV_rng (drA F c k).1 m.1
     have b2:=belowV_rng (belowC (drA F c k).1 (mnP (2*((F:Int)+k) - 1) 14)) (n:=2*((F:Int)+k)) (by omega)
     simp only
     omega
theorem oneS_ok {top:Int} {c:Cur} (h:c.ok):(oneS top c).1.ok:=by
 unfold oneS
 split
 · exact belowC_ok (belowC_ok (belowC_ok (belowC_ok (belowC_ok (belowC_ok h)))))
 · exact belowC_ok (belowC_ok (belowC_ok h))
theorem oneS_good {top:Int} {c:Cur} (ht:0<top):seqOkB (oneS top c).2=true∧∀ y∈(oneS top c).2.2.2,0≤y∧y<top:=by
 unfold oneS
 split
 · have b0:=belowV_rng (belowC c 6) (n:=32) (by omega)
   have b1:=belowV_rng (belowC (belowC c 6) 32) ht
   have b2:=belowV_rng (belowC (belowC (belowC c 6) 32) top) ht
   have b3:=belowV_rng (belowC (belowC (belowC (belowC c 6) 32) top) top) ht
   have b4:=belowV_rng (belowC (belowC (belowC (belowC (belowC c 6) 32) top) top) top) ht
   refine⟨?_,fun y hy=>?_⟩
   · have hr:rng (belowV (belowC c 6) 32) 0 31=true:=rng_iff.2 (by omega)
     simp[seqOkB,ramS,hr]
   · simp only[ramS,List.mem_cons,List.not_mem_nil,or_false] at hy
     rcases hy with rfl|rfl|rfl|rfl<;>assumption
 · have m:=mnP_pos ht (b:=12) (by omega)
   have b0:=belowV_rng (belowC c 6) (n:=2) (by omega)
   have b1:=belowV_rng (belowC (belowC c 6) 2) m.1
   refine⟨?_,fun y hy=>?_⟩
   · have hr:rng (belowV (belowC c 6) 2) 0 1=true:=rng_iff.2 (by omega)
     simp[seqOkB,flpS,hr]
   · simp only[flpS,List.mem_cons,List.not_mem_nil,or_false] at hy
     subst hy
     omega
theorem drS_len {top:Int} {c:Cur}:∀ i,(drS top c i).2.length=i
 | 0=>rfl
 | i+1=>by simp[drS,drS_len i]
theorem drS_ok {top:Int} {c:Cur} (h:c.ok):∀ i,(drS top c i).1.ok
 | 0=>h
 | i+1=>oneS_ok (drS_ok h i)
theorem drS_good {top:Int} {c:Cur} (ht:0<top):∀ i,∀ s∈(drS top c i).2,seqOkB s=true∧∀ y∈s.2.2,0≤y∧y<top
 | 0,s,h=>by simp[drS] at h
 | i+1,s,h=>by
   rcases List.mem_append.1 h with h|h
   · exact drS_good ht i s h
   · rw[List.mem_singleton.1 h];exact oneS_good ht
theorem drO_len {top:Int} {c:Cur}:∀ i,(drO top c i).2.length=i
 | 0=>rfl
 | i+1=>by simp[drO,drO_len i]
theorem drO_ok {top:Int} {c:Cur} (h:c.ok):∀ i,(drO top c i).1.ok
 | 0=>h
 | i+1=>belowC_ok (drO_ok h i)
theorem drO_good {top:Int} {c:Cur} (ht:0<top):∀ i,∀ y∈(drO top c i).2,0≤y∧y<top
 | 0,s,h=>by simp[drO] at h
 | i+1,s,h=>by
   rcases List.mem_append.1 h with h|h
   · exact drO_good ht i s h
   · rw[List.mem_singleton.1 h]
     have m:=mnP_pos ht (b:=12) (by omega)
     have b1:=belowV_rng (drO top c i).1 m.1
     omega
end Go.Proofs.Ytnjedabjbeipeaa
namespace Go.Proofs.Ytnjedabjbeipeaa
open Go.RowKit Go.ChangeShapes Go.WideShapes
set_option linter.unusedVariables false
set_option linter.unusedSimpArgs false
theorem mapSeq_ok {pl:List Int} {s:SeqD} (h:seqOkB s=true):seqOkB (mapSeq pl s)=true:=by
 unfold seqOkB mapSeq at *
 simpa using h
end Go.Proofs.Ytnjedabjbeipeaa
