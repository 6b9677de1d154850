/-
  Rows whose elements are structs: their cells, one by one; costs and marks of lists. Plain lemmas, about no function of the program.
  Conditions: those typed in each theorem.
-/
import Derived.Test.YtklhofpjjbfckaaMk
namespace Go.Proofs.Ytklhofpjjbfckaa
open Go.RowKit Go.ChangeShapes Go.WideShapes
set_option linter.unusedVariables false
def costs {α:Type} (f:α→Nat):List α→Nat
 | []=>0
 | x::xs=>f x+costs f xs
def mks {α:Type} (f:α→Nat) (m:Int→α→α):Int→List α→List α
 | _,[]=>[]
 | k,x::xs=>m k x::mks f m (k+(f x:Nat)) xs
section
variable {α:Type} {f:α→Nat} {m:Int→α→α}
theorem costs_append:∀ (xs ys:List α),costs f (xs++ys)=costs f xs+costs f ys
 | [],ys=>by simp[costs]
 | x::xs,ys=>by simp[costs,costs_append xs ys];omega
theorem costs_snoc {xs:List α} {k:Nat} {x:α} (hx:xs[k]? = some x):costs f (xs.take (k+1))=costs f (xs.take k)+f x:=by
 rw[take_snoc' hx,costs_append];simp[costs]
theorem costs_take_le (xs:List α) (k:Nat):costs f (xs.take k)≤costs f xs:=by
 have h:=costs_append (f:=f) (xs.take k) (xs.drop k)
 rw[List.take_append_drop] at h
 omega
theorem cost_take_le {xs:List α} {k:Nat} {x:α} (hx:xs[k]? = some x):costs f (xs.take k)+f x≤costs f xs:=by
 have h:=costs_take_le (f:=f) xs (k+1)
 rw[costs_snoc hx] at h
 omega
theorem mks_len:∀ (k:Int) (xs:List α),(mks f m k xs).length=xs.length
 | _,[]=>rfl
 | k,x::xs=>by simp[mks,mks_len]
theorem mks_at:∀ (k:Int) (xs:List α) {j:Nat} {x:α},xs[j]? = some x→(mks f m k xs)[j]? = some (m (k+(costs f (xs.take j):Nat)) x)
 | _,[],_,_,h=>by simp at h
 | k,y::xs,0,x,h=>by simp at h;subst h;simp[mks,costs]
 | k,y::xs,j+1,x,h=>by
   simp at h
   have:=mks_at (k+(f y:Nat)) xs h
   simp[mks,costs,this]
   congr 1
   omega
end
def mkJ {α:Type} (f:α→Nat) (m:Int→α→α) (k:Int) (xs:List α) (j:Nat):List α:=(mks f m k xs).take j++xs.drop j
section
variable {α:Type} {f:α→Nat} {m:Int→α→α} {k:Int} {xs:List α}
theorem mkJ_len (j:Nat) (hj:j≤xs.length):(mkJ f m k xs j).length=xs.length:=by simp[mkJ,mks_len];omega
theorem mkJ_0:mkJ f m k xs 0=xs:=by simp[mkJ]
theorem mkJ_all:mkJ f m k xs xs.length=mks f m k xs:=by simp[mkJ,List.take_of_length_le (Nat.le_of_eq (mks_len (f:=f) (m:=m) k xs))]
theorem mkJ_at {j:Nat} {x:α} (hx:xs[j]? = some x):(mkJ f m k xs j)[j]? = some x:=by
 have hj:j<xs.length:=(List.getElem?_eq_some_iff.1 hx).1
 have ht:((mks f m k xs).take j).length=j:=by simp[mks_len];omega
 unfold mkJ
 rw[List.getElem?_append_right (by omega),ht,List.getElem?_drop]
 simpa using hx
theorem mkJ_succ {j:Nat} {x:α} (hx:xs[j]? = some x):mkJ f m k xs (j+1)=(mkJ f m k xs j).set j (m (k+(costs f (xs.take j):Nat)) x):=by
 have hj:j<xs.length:=(List.getElem?_eq_some_iff.1 hx).1
 have ht:((mks f m k xs).take j).length=j:=by simp[mks_len];omega
 unfold mkJ
 rw[List.set_append_right _ _ (by omega),ht,Nat.sub_self,take_snoc' (mks_at k xs hx),List.drop_eq_getElem_cons hj,List.append_assoc]
 rfl
end
theorem seg_out {l:List Value} {p s i:Nat} {u:Value} (h:p<i*s∨i*s+s≤p):((l.set p u).drop (i*s)).take s=(l.drop (i*s)).take s:=by
 apply List.ext_getElem?
 intro j
 rw[List.getElem?_take,List.getElem?_take,List.getElem?_drop,List.getElem?_drop]
 split
 · rw[List.getElem?_set_ne (by omega)]
 · rfl
theorem seg_in {l:List Value} {s i j:Nat} {u:Value} (hj:j<s):((l.set (i*s+j) u).drop (i*s)).take s=((l.drop (i*s)).take s).set j u:=by
 apply List.ext_getElem?
 intro k
 rw[List.getElem?_take,List.getElem?_drop]
 by_cases hk:k=j
 · subst hk
   rw[if_pos hj]
   by_cases hl:i*s+k<l.length
   · rw[List.getElem?_set_self hl,List.getElem?_set_self (by simp;omega)]
   · rw[List.getElem?_eq_none (by simp;omega),List.getElem?_eq_none (by simp;omega)]
 · rw[List.getElem?_set_ne (by omega),List.getElem?_set_ne (by omega)]
   rw[List.getElem?_take,List.getElem?_drop]
theorem mul_seg {i j s n:Nat} (h:i<j) (hj:j≤n):i*s+s≤n*s:=by
 have h1:=Nat.mul_le_mul_right s (show i+1≤n by omega)
 rwa [Nat.succ_mul] at h1
theorem flat_owns {P:Program} {w:World}:∀ {ds:List D} {vs:List Value} {f:List Nat},(∀ d∈ds,flatD d=true)→Owns P w ds vs f→f=[]
 | [],_,_,_,h=>by cases h;rfl
 | d::ds,_,_,hd,h=>by
   have h0:=hd d (by simp)
   cases h with
   | int _ _ h=>exact flat_owns (fun d hd'=>hd d (by simp[hd'])) h
   | bool _ h=>exact flat_owns (fun d hd'=>hd d (by simp[hd'])) h
   | none t h=>simp[flatD] at h0
   | sl=>simp[flatD] at h0
theorem flat_stay {P:Program} {w w':World}:∀ {ds:List D} {vs:List Value} {f:List Nat},(∀ d∈ds,flatD d=true)→Owns P w ds vs f→Owns P w' ds vs f
 | [],_,_,_,h=>by cases h;exact .nil
 | d::ds,_,_,hd,h=>by
   have h0:=hd d (by simp)
   cases h with
   | int k x h=>exact .int k x (flat_stay (fun d hd'=>hd d (by simp[hd'])) h)
   | bool b h=>exact .bool b (flat_stay (fun d hd'=>hd d (by simp[hd'])) h)
   | none t h=>simp[flatD] at h0
   | sl=>simp[flatD] at h0
structure Open (P:Program) (w:World) (t:TypeId) (es:List (List D)) (g c:Nat) (Fs:List (List Nat)):Prop where
 row:∃ cur:Array Value,w.heap[g]? = some (.cells cur t (0,0))∧cur.size=c*P.cellsOf t∧∀ i e f,es[i]? = some e→Fs[i]? = some f→Owns P w e ((cur.toList.drop (i*P.cellsOf t)).take (P.cellsOf t)) f
 c63:c≤9223372036854775807
 cap:es.length≤c
 len:Fs.length=es.length
 size:∀ e∈es,e.length=P.cellsOf t
 nd:(g::Fs.flatten).Nodup
section
variable {P:Program} {w w':World} {t:TypeId} {es:List (List D)} {g c:Nat} {Fs:List (List Nat)}
theorem open_row {A:Option Nat} {F:List Nat} (h:RowOf P w (Owns P w) t es A c F) (hF:F.Nodup) (h0:0<es.length):∃ g Fs,A=some g∧F=g::Fs.flatten∧Open P w t es g c Fs:=by
 obtain⟨h1,h2,⟨rfl,rfl,rfl⟩|⟨g,cur,Fs,rfl,h3,h4,h5,h6,h7,rfl⟩⟩:=h
 · omega
 · exact⟨g,Fs,rfl,rfl,⟨cur,h3,h4,h7⟩,h1,h2,h5,h6,hF⟩
theorem Open.close (h:Open P w t es g c Fs):RowOf P w (Owns P w) t es (some g) c (g::Fs.flatten):=by
 obtain⟨⟨cur,h3,h4,h7⟩,h1,h2,h5,h6,hF⟩:=h
 exact⟨h1,h2,.inr ⟨g,cur,Fs,rfl,h3,h4,h5,h6,h7,rfl⟩⟩
theorem Open.lt (h:Open P w t es g c Fs):g<w.heap.size:=by
 obtain⟨⟨cur,h3,_⟩,_⟩:=h
 exact (Array.getElem?_eq_some_iff.1 h3).1
theorem Open.slot (h:Open P w t es g c Fs) {j:Nat} (hj:j<c*P.cellsOf t):∃ u,w.cell? ⟨g,j,none⟩=some u:=by
 obtain⟨⟨cur,h3,h4,_⟩,_⟩:=h
 rw[cell_of_row w g j cur t (0,0) h3]
 exact⟨cur[j]'(by omega),Array.getElem?_eq_getElem (by omega)⟩
theorem Open.free (h:Open P w t es g c Fs) (j:Nat):w.frozen? ⟨g,j,none⟩=false:=by
 obtain⟨⟨cur,h3,h4,_⟩,_⟩:=h
 exact frozen_of_row w g j cur t h3
theorem Open.int_at (h:Open P w t es g c Fs) {i j:Nat} {e:List D} {k:IntKind} {x:Int} (he:es[i]? = some e) (hd:e[j]? = some (.int k x)):w.cell? ⟨g,i*P.cellsOf t+j,none⟩=some (.int k x):=by
 obtain⟨⟨cur,h3,h4,h7⟩,h1,h2,h5,h6,hF⟩:=h
 have hi:i<es.length:=(List.getElem?_eq_some_iff.1 he).1
 obtain⟨v,hv,hr⟩:=(h7 i e _ he (List.getElem?_eq_getElem (by omega))).rd (G:=fun _=>True) (fun _ _=>trivial) j _ hd
 rw[cell_of_row w g _ cur t (0,0) h3]
 rw[List.getElem?_take] at hv
 split at hv
 · rw[List.getElem?_drop,Array.getElem?_toList] at hv
   rw[hv]
   cases hr
   rfl
 · cases hv
theorem Open.put (h:Open P w t es g c Fs) {i j:Nat} {e e':List D} (he:es[i]? = some e) (hj:j<P.cellsOf t) {u:Value}
 (how:∀ (W:World) (cs:List Value) (f:List Nat),cs.length=e.length→Owns P W e cs f→Owns P W e' (cs.set j u) f) (hl:e'.length=e.length):Open P (w.setCell ⟨g,i*P.cellsOf t+j,none⟩ u) t (es.set i e') g c Fs:=by
 obtain⟨⟨cur,h3,h4,h7⟩,h1,h2,h5,h6,hF⟩:=h
 have hg:=(List.nodup_cons.1 hF).1
 refine⟨⟨_,heap_setCell_same w g _ cur t u h3,by simpa using h4,fun k y f' hy hf'=>?_⟩,h1,by simpa using h2,by simpa using h5,fun y hy=>?_,hF⟩
 · have hst:∀ {z:List D} {cs:List Value},Owns P w z cs f'→Owns P (w.setCell ⟨g,i*P.cellsOf t+j,none⟩ u) z cs f':=fun ho =>
    ho.stay (fun q hq=>heap_setCell_other w _ q u (fun e=>hg (by have:q=g:=e;subst this;exact mem_flat hf' hq)))
   rw[Array.toList_setIfInBounds]
   by_cases hk:k=i
   · subst hk
     rw[List.getElem?_set_self (List.getElem?_eq_some_iff.1 he).1] at hy
     obtain rfl:=Option.some.inj hy
     rw[seg_in hj]
     have ho:=h7 k e f' he hf'
     exact how _ _ _ ho.len (hst ho)
   · rw[List.getElem?_set_ne (fun e=>hk e.symm)] at hy
     rw[seg_out (by
      rcases Nat.lt_or_gt_of_ne hk with h|h
      · exact .inr (by have:=mul_seg (s:=P.cellsOf t) h (Nat.le_refl i);omega)
      · exact .inl (by have:=mul_seg (s:=P.cellsOf t) h (Nat.le_refl k);omega))]
     exact hst (h7 k y f' hy hf')
 · rcases List.mem_or_eq_of_mem_set hy with h|rfl
   · exact h6 y h
   · rw[hl];exact h6 e (List.mem_of_getElem? he)
theorem Open.inner (h:Open P w t es g c Fs) {i j:Nat} {e:List D} {t2:TypeId} {es2:List (List D)} (he:es[i]? = some e) (pre post:List D) (hj:pre.length=j) (hd:e=pre++.sl t2 es2::post)
 (hpre:∀ d∈pre,flatD d=true) (hpost:∀ d∈post,flatD d=true) :
 ∃ A c2 f,Fs[i]? = some f∧w.cell? ⟨g,i*P.cellsOf t+j,none⟩=some (.slice (hdr A) es2.length c2)∧RowOf P w (Owns P w) t2 es2 A c2 f∧f.Nodup:=by
 subst hj hd
 obtain⟨⟨cur,h3,h4,h7⟩,h1,h2,h5,h6,hF⟩:=h
 have hi:i<es.length:=(List.getElem?_eq_some_iff.1 he).1
 have hf:Fs[i]? = some (Fs[i]'(by omega)):=List.getElem?_eq_getElem (by omega)
 have ho:=h7 i _ _ he hf
 have key:∀ (pre:List D) (vs:List Value) (f:List Nat),(∀ d∈pre,flatD d=true)→Owns P w (pre++.sl t2 es2::post) vs f→∃ A c2,vs[pre.length]? = some (.slice (hdr A) es2.length c2)∧RowOf P w (Owns P w) t2 es2 A c2 f:=by
  intro pre
  induction pre with
  | nil =>
    intro vs f _ ho
    match vs,ho.len with
    | v::vs,_ =>
      obtain⟨F1,F2,rfl,k1,k2⟩:=owns_cons ho
      have hF2:F2=[]:=flat_owns hpost k2
      subst hF2
      obtain⟨A,c2,rfl,hr⟩:=row_owns k1
      exact⟨A,c2,rfl,by simpa using hr⟩
  | cons d ds ih =>
    intro vs f hp ho
    match vs,ho.len with
    | v::vs,_ =>
      obtain⟨F1,F2,rfl,k1,k2⟩:=owns_cons ho
      have hF1:F1=[]:=flat_owns (ds:=[d]) (by simpa using hp d (by simp)) k1
      subst hF1
      obtain⟨A,c2,q1,q2⟩:=ih vs F2 (fun d hd=>hp d (by simp[hd])) k2
      exact⟨A,c2,by simpa using q1,by simpa using q2⟩
 obtain⟨A,c2,q1,q2⟩:=key pre _ _ hpre ho
 refine⟨A,c2,_,hf,?_,q2,?_⟩
 · rw[cell_of_row w g _ cur t (0,0) h3]
   rw[List.getElem?_take] at q1
   split at q1
   · rw[List.getElem?_drop,Array.getElem?_toList] at q1
     exact q1
   · cases q1
 · exact List.Pairwise.sublist (List.sublist_flatten_of_mem (List.mem_of_getElem? hf)) (List.nodup_cons.1 hF).2
theorem Open.turned (h:Open P w t es g c Fs) {i j:Nat} {e:List D} {t2:TypeId} {es2 es2':List (List D)} {f:List Nat} {A:Option Nat} {c2:Nat} (he:es[i]? = some e) (hf:Fs[i]? = some f) (ho:Only f w w') (pre post:List D) (hj:pre.length=j) (hd:e=pre++.sl t2 es2::post)
 (hpre:∀ d∈pre,flatD d=true) (hpost:∀ d∈post,flatD d=true) (hc:w.cell? ⟨g,i*P.cellsOf t+j,none⟩=some (.slice (hdr A) es2.length c2)) (hlen:es2'.length=es2.length) (hr:RowOf P w' (Owns P w') t2 es2' A c2 f) :
 Open P w' t (es.set i (pre++.sl t2 es2'::post)) g c Fs:=by
 subst hj hd
 have hlt:=h.lt
 obtain⟨⟨cur,h3,h4,h7⟩,h1,h2,h5,h6,hF⟩:=h
 have hg:=(List.nodup_cons.1 hF).1
 have hltF:∀ q∈Fs.flatten,q<w.heap.size:=by
  intro q hq
  obtain⟨l,hl,hq⟩:=List.mem_flatten.1 hq
  obtain⟨k,hk,rfl⟩:=List.mem_iff_getElem.1 hl
  exact (h7 k _ _ (List.getElem?_eq_getElem (by omega)) (List.getElem?_eq_getElem hk)).lt q hq
 have hgf:g∉f:=fun hq=>hg (mem_flat hf hq)
 refine⟨⟨cur,(ho.block g hlt hgf).trans h3,h4,fun k y f' hy hf'=>?_⟩,h1,by simpa using h2,by simpa using h5,fun y hy=>?_,hF⟩
 · by_cases hk:k=i
   · subst hk
     rw[List.getElem?_set_self (List.getElem?_eq_some_iff.1 he).1] at hy
     obtain rfl:=Option.some.inj hy
     rw[hf] at hf'
     obtain rfl:=Option.some.inj hf'
     have how:=h7 k _ f he hf
     rw[cell_of_row w g _ cur t (0,0) h3] at hc
     have hvc:((cur.toList.drop (k*P.cellsOf t)).take (P.cellsOf t))[pre.length]? = some (.slice (hdr A) es2.length c2):=by
      have h8:=h6 _ (List.mem_of_getElem? he)
      rw[List.getElem?_take,if_pos (by simp at h8;omega),List.getElem?_drop,Array.getElem?_toList]
      exact hc
     generalize ((cur.toList.drop (k*P.cellsOf t)).take (P.cellsOf t))=vs at how hvc
     clear h6 he hf ho hy
     have key:∀ (pre:List D) (vs:List Value) (F:List Nat),(∀ d∈pre,flatD d=true)→Owns P w (pre++.sl t2 es2::post) vs F→vs[pre.length]? = some (.slice (hdr A) es2.length c2)→F=f→Owns P w' (pre++.sl t2 es2'::post) vs f:=by
      intro pre
      induction pre with
      | nil =>
        intro vs F _ ho hv hFf
        match vs,ho.len with
        | v::vs,_ =>
          obtain⟨F1,F2,rfl,k1,k2⟩:=owns_cons ho
          have hF2:F2=[]:=flat_owns hpost k2
          subst hF2
          simp at hv
          subst hv
          have o1:=owns_row hr
          rw[hlen] at o1
          have:=o1.append (flat_stay hpost k2 (w':=w'))
          simpa using this
      | cons d ds ih =>
        intro vs F hp ho hv hFf
        match vs,ho.len with
        | v::vs,_ =>
          obtain⟨F1,F2,rfl,k1,k2⟩:=owns_cons ho
          have hfl:∀ d'∈[d],flatD d'=true:=by simpa using hp d (by simp)
          have hF1:F1=[]:=flat_owns hfl k1
          subst hF1
          have:=(flat_stay hfl k1 (w':=w')).append (ih vs F2 (fun d hd=>hp d (by simp[hd])) k2 (by simpa using hv) (by simpa using hFf))
          simpa using this
     exact key pre vs f hpre how hvc rfl
   · rw[List.getElem?_set_ne (fun e=>hk e.symm)] at hy
     exact (h7 k y f' hy hf').stay fun q hq=>ho.block q (hltF q (mem_flat hf' hq)) (fun hq'=>flat_disj (List.nodup_cons.1 hF).2 hf hf' (fun e=>hk e.symm) q hq' hq)
 · rcases List.mem_or_eq_of_mem_set hy with h|rfl
   · exact h6 y h
   · have:=h6 _ (List.mem_of_getElem? he)
     simpa using this
end
end Go.Proofs.Ytklhofpjjbfckaa
