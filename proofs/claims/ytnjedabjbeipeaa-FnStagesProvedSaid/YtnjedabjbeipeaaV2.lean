/-
  Operations that make memory, and calls by their contracts: what they leave, wherever the new slots are listed. Plain lemmas, about no function of the program.
  Conditions: those typed in each theorem.
-/
import Derived.Test.YtnjedabjbeipeaaV1
namespace Go.Proofs.Ytnjedabjbeipeaa
open Go.RowKit Go.ChangeShapes Go.WideShapes
set_option linter.unusedSimpArgs false
set_option linter.unusedVariables false
set_option maxRecDepth 100000
set_option maxHeartbeats 10000000
inductive X where
 | d (x:D)
 | agg (ds:List D)
 | tup (xs:List X)
inductive fH (w:World) (G:Nat→Prop):X→Value→Prop
 | d {x:D} {v:Value} (h:Rd w G x v):fH w G (.d x) v
 | agg {ds:List D} {vs:List Value} (h:Rds w G ds vs []):fH w G (.agg ds) (.agg vs.toArray)
inductive QB (P:Program) (w:World):X→Value→List Nat→Prop
 | d {x:D} {v:Value} {F:List Nat} (h:BW P w [x] [v] F):QB P w (.d x) v F
 | agg {ds:List D} {vs:List Value} {F:List Nat} (h:BW P w ds vs F):QB P w (.agg ds) (.agg vs.toArray) F
inductive Wx (P:Program) (w:World):X→Value→List Nat→Prop
 | one {x:X} {v:Value} {F:List Nat} (h:QB P w x v F):Wx P w x v F
 | tup {xs:List X} {vs:List Value} {Fs:List (List Nat)} (hl:vs.length=xs.length) (hF:Fs.length=xs.length) (h:∀ (i:Nat) (x:X) (v:Value) (F:List Nat),xs[i]? = some x→vs[i]? = some v→Fs[i]? = some F→QB P w x v F) :
    Wx P w (.tup xs) (.tuple vs.toArray) Fs.flatten
def Con (P:Program) (f:FuncId) (xs:List X) (r:X):Prop :=
 ∀ (w:World) (vs:List Value),vs.length=xs.length→(∀ (i:Nat) (x:X) (v:Value),xs[i]? = some x→vs[i]? = some v→fH w (·<w.heap.size) x v) →
   Calls P f vs.toArray w fun e w'=>∃ v F,e=.returned v∧Wx P w' r v F∧F.Nodup∧(∀ g∈F,w.heap.size≤g)∧Below w.heap.size w w'
def GT (sl:List Ag) (x:V):Option D :=
 match x with
 | .d x=>some x
 | .nil t=>some (.sl t [])
 | .ref s=>match sl[s]? with
   | some (.arr t _ es)=>some (.sl t es)
   | _=>none
 | _=>none
def IU (sl:List Ag):List V→Option (List D)
 | []=>some []
 | x::xs=>match GT sl x,IU sl xs with
   | some d,some ds=>some (d::ds)
   | _,_=>none
def Q5 (sl:List Ag) (x:V):Option X :=
 match x with
 | .agg xs=>(IU sl xs).map .agg
 | x=>(GT sl x).map .d
def DU (sl:List Ag):List V→Option (List X)
 | []=>some []
 | x::xs=>match Q5 sl x,DU sl xs with
   | some d,some ds=>some (d::ds)
   | _,_=>none
def FO (n:Nat) (x:D):V×List Ag :=
 match x with
 | .sl t es=>(.ref n,[.arr t true es])
 | x=>(.d x,[])
def K4 (n:Nat):List D→List V×List Ag
 | []=>([],[])
 | x::xs=>((FO n x).1::(K4 (n+(FO n x).2.length) xs).1,(FO n x).2++(K4 (n+(FO n x).2.length) xs).2)
def Ht (n:Nat) (x:X):V×List Ag :=
 match x with
 | .d x=>FO n x
 | .agg ds=>(.agg (K4 n ds).1,(K4 n ds).2)
 | .tup _=>(.any,[])
def Ld (n:Nat):List X→List V×List Ag
 | []=>([],[])
 | x::xs=>((Ht n x).1::(Ld (n+(Ht n x).2.length) xs).1,(Ht n x).2++(Ld (n+(Ht n x).2.length) xs).2)
def inst (n:Nat) (x:X):V×List Ag :=
 match x with
 | .tup xs=>(.tup (Ld n xs).1,(Ld n xs).2)
 | x=>Ht n x
structure jZ (R:Nat→Prop) (φ:B6) (sl:List Ag) (w:World) (φ':B6) (sl':List Ag) (w':World):Prop where
 hk:∀ b,good R φ sl w b→good R φ' sl' w' b∧∀ o,w'.cell? ⟨b,o,none⟩=w.cell? ⟨b,o,none⟩
 hs:∀ (s:Nat) (x:Ag),sl[s]? = some x→∃ x',sl'[s]? = some x'∧Later x x'
 hp:∀ (s:Nat) (h:Option Nat×Nat),φ[s]? = some h→sl[s]?≠some .unborn→φ'[s]? = some h
def gB (n:Nat) (ψ:B6) (news:List Ag) (φ':B6) (sl':List Ag):Prop:=∀ i,i<news.length→sl'[n+i]? = news[i]?∧φ'[n+i]? = ψ[i]?
structure gT (P:Program) (w:World) (w':World) (news:List Ag) (ψ:B6) (Fn:List (List Nat)):Prop where
 below:Below w.heap.size w w'
 plen:ψ.length=news.length
 Flen:Fn.length=news.length
 nd:Fn.flatten.Nodup
 ge:∀ g∈Fn.flatten,w.heap.size≤g
 hd:∀ (i b c:Nat),ψ[i]? = some (some b,c)→w.heap.size≤b
def ND (R:Nat→Prop) (P:Program) (n:Nat) (φ:B6) (sl:List Ag) (w:World) (x:V) (news:List Ag) (v:Value) (w':World):Prop :=
 ∃ ψ Fn,gT P w w' news ψ Fn∧∀ φ' sl',jZ R φ sl w φ' sl' w'→gB n ψ news φ' sl' →
   (∀ (i:Nat) (y:Ag) (h:Option Nat×Nat) (F:List Nat),news[i]? = some y→ψ[i]? = some h→Fn[i]? = some F→SR P w' (good R φ' sl' w') φ' sl' y h F)∧VR w' (good R φ' sl' w') φ' sl' x v
section
variable {P:Program} {w0:DP} {w w':World} {φ:B6} {σ:St} {a:Act} {sl:List Ag}
theorem gT.nothing (P:Program) (w:World):gT P w w [] [] []:=⟨Below.refl _ _,rfl,rfl,by simp,by simp,by simp⟩
theorem PV {n:Nat} {x:V} {v:Value} (h:VR w (good w0.R φ sl w) φ sl x v):ND w0.R P n φ sl w x [] v w :=
 ⟨[],[],gT.nothing P w,fun φ' sl' he _=>⟨fun i y h F hy=>by simp at hy,h.mono he.hk he.hs he.hp⟩⟩
theorem PC {o:Obj} {y:Ag} {c:Nat}:gT P w (w.alloc o) [y] [(some w.heap.size,c)] [[w.heap.size]] :=
 ⟨T2 w o,rfl,rfl,by simp,by simp,fun i b c h=>by
   match i with
   | 0=>simp at h;omega
   | i+1=>simp at h⟩
theorem M0 {n:Nat} {t:TypeId} {xs:List V} {vs:List Value} (h:VRs w (good w0.R φ sl w) φ sl xs vs) (x:V) (v:Value) (hx:∀ φ' sl' (w':World),sl'[n]? = some (.var t xs)→φ'[n]? = some (some w.heap.size,0)→VR w' (good w0.R φ' sl' w') φ' sl' x v) :
 ND w0.R P n φ sl w x [.var t xs] v (w.alloc (.cells vs.toArray t)):=by
 refine⟨[(some w.heap.size,0)],[[w.heap.size]],PC,fun φ' sl' he hpl=>⟨fun i y hd F hy hh hF=>?_,?_⟩⟩
 · match i with
   | 0 =>
     simp at hy hh hF;subst hy hh hF;refine⟨w.heap.size,vs.toArray,rfl,rfl,heap_alloc_new w _,by simp[h.1],fun i x v hx hv=>?_⟩;have:=h.2 i x v hx (by simpa using hv);exact⟨this.1.mono he.hk he.hs he.hp,this.2⟩
   | i+1=>simp at hy
 · obtain⟨h1,h2⟩:=hpl 0 (by simp);exact hx φ' sl' _ (by simpa using h1) (by simpa using h2)
theorem RK {d:D} {ds:List D} {v:Value} {vs:List Value} {F:List Nat} (h:BW P w (d::ds) (v::vs) F):∃ F1 F2,F=F1++F2∧BW P w [d] [v] F1∧BW P w ds vs F2:=by
 cases h with
 | int k x h=>exact⟨[],F,rfl,.int k x .nil,h⟩
 | bool b h=>exact⟨[],F,rfl,.bool b .nil,h⟩
 | none t h=>exact⟨[],F,rfl,.none t .nil,h⟩
 | sl t es g c cur Fs hg hcap hc63 hsz hFl hl he h =>
   exact⟨_,_,rfl,by simpa using BW.sl t es g c cur Fs hg hcap hc63 hsz hFl hl he .nil,h⟩
structure Yi (P:Program) (w:World) (n:Nat) (xs:List V) (news:List Ag) (vs:List Value) (F:List Nat) (ψ:B6) (Fn:List (List Nat)):Prop where
 plen:ψ.length=news.length
 Flen:Fn.length=news.length
 flat:Fn.flatten=F
 hd:∀ (i b c:Nat),ψ[i]? = some (some b,c)→b∈F
 sr:∀ G φ' sl' (i:Nat) (y:Ag) (h:Option Nat×Nat) (F:List Nat),news[i]? = some y→ψ[i]? = some h→Fn[i]? = some F→SR P w G φ' sl' y h F
 vr:∀ G φ' sl',gB n ψ news φ' sl'→vs.length=xs.length∧∀ (i:Nat) (x:V) (v:Value),xs[i]? = some x→vs[i]? = some v→VR w G φ' sl' x v
theorem Yi.nil {n:Nat}:Yi P w n [] [] [] [] [] []:=⟨rfl,rfl,rfl,by simp,fun _ _ _ i y h F hy=>by simp at hy,fun _ _ _ _=>⟨rfl,fun i x v hx=>by simp at hx⟩⟩
theorem Yi.cons {n:Nat} {x:V} {xs:List V} {n1 n2:List Ag} {v:Value} {vs:List Value} {F1 F2:List Nat} {ψ1 ψ2:B6} {Fn1 Fn2:List (List Nat)} (h1:Yi P w n [x] n1 [v] F1 ψ1 Fn1) (h2:Yi P w (n+n1.length) xs n2 vs F2 ψ2 Fn2) :
 Yi P w n (x::xs) (n1++n2) (v::vs) (F1++F2) (ψ1++ψ2) (Fn1++Fn2) where
 plen:=by simp[h1.plen,h2.plen]
 Flen:=by simp[h1.Flen,h2.Flen]
 flat:=by simp[h1.flat,h2.flat]
 hd:=fun i b c h=>by
  by_cases hi:i<ψ1.length
  · rw[zz4 hi] at h;exact List.mem_append_left _ (h1.hd i b c h)
  · rw[zz5 (by omega)] at h;exact List.mem_append_right _ (h2.hd _ b c h)
 sr:=fun G φ' sl' i y h F hy hh hF=>by
  by_cases hi:i<n1.length
  · rw[zz4 hi] at hy;rw[zz4 (by rw[h1.plen];exact hi)] at hh;rw[zz4 (by rw[h1.Flen];exact hi)] at hF;exact h1.sr G φ' sl' i y h F hy hh hF
  · rw[zz5 (by omega)] at hy;rw[zz5 (by rw[h1.plen];omega),h1.plen] at hh;rw[zz5 (by rw[h1.Flen];omega),h1.Flen] at hF;exact h2.sr G φ' sl' _ y h F hy hh hF
 vr:=fun G φ' sl' hp=>by
  have e1:=h1.plen
  obtain⟨k1,k2⟩:=h1.vr G φ' sl' (fun i hi=>by
   obtain⟨q1,q2⟩:=hp i (by simp;omega);rw[zz4 hi] at q1;rw[zz4 (by omega)] at q2
   exact⟨q1,q2⟩)
  obtain⟨k3,k4⟩:=h2.vr G φ' sl' (fun i hi=>by
   obtain⟨q1,q2⟩:=hp (n1.length+i) (by simp;omega);rw[zz5 (by omega),Nat.add_sub_cancel_left,←Nat.add_assoc] at q1;rw[zz5 (by omega),e1,Nat.add_sub_cancel_left,←Nat.add_assoc] at q2
   exact⟨q1,q2⟩)
  refine⟨by simp[k3],fun i y u hy hu=>?_⟩
  match i with
  | 0=>exact k2 0 y u (by simpa using hy) (by simpa using hu)
  | i+1=>exact k4 i y u (by simpa using hy) (by simpa using hu)
theorem oC {n:Nat} {x:D} {v:Value} {F:List Nat} (h:BW P w [x] [v] F):∃ ψ Fn,Yi P w n [(FO n x).1] (FO n x).2 [v] F ψ Fn:=by
 have one:∀ {x:D},Rd w (fun _=>False) x v→F=[]→Yi P w n [.d x] [] [v] F [] []:=by
  intro x hr hF;subst hF;refine⟨rfl,rfl,rfl,by simp,fun _ _ _ i y h F hy=>by simp at hy,fun G _ _ _=>⟨rfl,fun i y u hy hu=>?_⟩⟩
  match i with
  | 0=>simp at hy hu;subst hy hu;exact .d (hr.mono fun _ h=>h.elim)
  | i+1=>simp at hy
 cases x with
 | int k n=>cases h with|int _ _ h=>cases h;exact⟨_,_,one (.int _ _) rfl⟩
 | bool b=>cases h with|bool _ h=>cases h;exact⟨_,_,one (.bool _) rfl⟩
 | sl t es =>
   obtain⟨A,c,rfl,hr⟩:=dS h;refine⟨[(A,c)],[F],rfl,rfl,by simp,fun i b c' hi=>?_,fun G φ' sl' i y hd F' hy hh hF=>?_,fun G φ' sl' hp=>⟨rfl,fun i y u hy hu=>?_⟩⟩
   · match i with
     | 0 =>
       simp at hi;obtain⟨rfl,_⟩:=hi;obtain⟨_,_,⟨k,_⟩|⟨g,_,_,k,_,_,_,_,_,rfl⟩⟩:=hr
       · cases k
       · cases k;simp
     | i+1=>simp at hi
   · match i with
     | 0=>simp[FO] at hy hh hF;subst hy hh hF;exact hr
     | i+1=>simp[FO] at hy
   · match i with
     | 0 =>
       simp[FO] at hy hu;subst hy hu;obtain⟨q1,q2⟩:=hp 0 (by simp[FO]);exact .ref (by simpa [FO] using q1) (by simpa using q2)
     | i+1=>simp at hy
theorem cK:∀ {n:Nat} {xs:List D} {vs:List Value} {F:List Nat},BW P w xs vs F→∃ ψ Fn,Yi P w n (K4 n xs).1 (K4 n xs).2 vs F ψ Fn
 | n,[],vs,F,h=>by cases h;exact⟨[],[],Yi.nil⟩
 | n,x::xs,vs,F,h=>by
   cases vs with
   | nil=>have:=h.len;simp at this
   | cons v vs =>
     obtain⟨F1,F2,rfl,h1,h2⟩:=RK h;obtain⟨ψ1,Fn1,k1⟩:=oC (n:=n) h1;obtain⟨ψ2,Fn2,k2⟩:=cK (n:=n+(FO n x).2.length) h2;exact⟨_,_,k1.cons k2⟩
theorem oF {n:Nat} {x:X} {v:Value} {F:List Nat} (h:QB P w x v F):∃ ψ Fn,Yi P w n [(Ht n x).1] (Ht n x).2 [v] F ψ Fn:=by
 cases h with
 | d h=>exact oC h
 | agg h =>
   rename_i ds vs;obtain⟨ψ,Fn,k⟩:=cK (n:=n) h;refine⟨ψ,Fn,k.plen,k.Flen,k.flat,k.hd,k.sr,fun G φ' sl' hp=>⟨rfl,fun i y u hy hu=>?_⟩⟩;obtain⟨q1,q2⟩:=k.vr G φ' sl' hp
   match i with
   | 0 =>
     simp[Ht] at hy hu;subst hy hu;exact .agg q1 h.one q2
   | i+1=>simp at hy
theorem fN:∀ {n:Nat} {xs:List X} {vs:List Value} {Fs:List (List Nat)},vs.length=xs.length→Fs.length=xs.length →
 (∀ (i:Nat) (x:X) (v:Value) (F:List Nat),xs[i]? = some x→vs[i]? = some v→Fs[i]? = some F→QB P w x v F)→∃ ψ Fn,Yi P w n (Ld n xs).1 (Ld n xs).2 vs Fs.flatten ψ Fn
 | n,[],[],[],_,_,_=>⟨[],[],Yi.nil⟩
 | n,x::xs,v::vs,F::Fs,h1,h2,h=>by
   obtain⟨ψ1,Fn1,k1⟩:=oF (n:=n) (h 0 x v F rfl rfl rfl);obtain⟨ψ2,Fn2,k2⟩:=fN (n:=n+(Ht n x).2.length) (xs:=xs) (vs:=vs) (Fs:=Fs) (by simpa using h1) (by simpa using h2) (fun i x v F hx hv hF=>h (i+1) x v F (by simpa using hx) (by simpa using hv) (by simpa using hF));exact⟨_,_,k1.cons k2⟩
 | n,[],_::_,_,h1,_,_=>by simp at h1
 | n,[],[],_::_,_,h2,_=>by simp at h2
 | n,_::_,[],_,h1,_,_=>by simp at h1
 | n,_::_,_::_,[],_,h2,_=>by simp at h2
theorem nN {n:Nat} {x:X} {v:Value} {F:List Nat} (h:Wx P w x v F):∃ ψ Fn,Yi P w n [(inst n x).1] (inst n x).2 [v] F ψ Fn:=by
 cases h with
 | one h =>
   have:inst n x=Ht n x:=by cases h<;>rfl
   rw[this];exact oF h
 | tup hl hF h =>
   rename_i xs vs Fs;obtain⟨ψ,Fn,k⟩:=fN (n:=n) hl hF h;refine⟨ψ,Fn,k.plen,k.Flen,k.flat,k.hd,k.sr,fun G φ' sl' hp=>⟨rfl,fun i y u hy hu=>?_⟩⟩;obtain⟨q1,q2⟩:=k.vr G φ' sl' hp
   match i with
   | 0 =>
     simp[inst] at hy hu;subst hy hu;exact .tup q1 q2
   | i+1=>simp at hy
theorem Zp {n:Nat} {r:X} {v:Value} {F:List Nat} (h:Wx P w' r v F) (hn:F.Nodup) (hg:∀ g∈F,w.heap.size≤g) (hb:Below w.heap.size w w'):ND w0.R P n φ sl w (inst n r).1 (inst n r).2 v w':=by
 obtain⟨ψ,Fn,k⟩:=nN (n:=n) h;refine⟨ψ,Fn,⟨hb,k.plen,k.Flen,by rw[k.flat];exact hn,by rw[k.flat];exact hg,fun i b c hi=>hg b (k.hd i b c hi)⟩,fun φ' sl' he hp=>⟨k.sr _ φ' sl',?_⟩⟩;exact (k.vr _ φ' sl' hp).2 0 _ v rfl rfl
theorem J4 {G:Nat→Prop} {Fs:List (List Nat)} {x:V} {y:D} {v:Value} (h:GT sl x=some y) (hm:BM P w0 φ sl w Fs) (hx:VR w (good w0.R φ sl w) φ sl x v) (hG:∀ b,good w0.R φ sl w b→G b)
 (hF:∀ s,x=.ref s→∀ F,Fs[s]? = some F→∀ b∈F,G b):Rd w G y v:=by
 have hle:∀ {y v},Rd w (good w0.R φ sl w) y v→Rd w G y v:=fun hr=>hr.mono fun b hb=>⟨hG b hb,fun _=>rfl⟩;unfold GT at h;split at h
 · cases h;cases hx with|d h=>exact hle h
 · cases h;cases hx;exact .nil _ _ _
 · split at h
   · rename_i s _ t ow es hs
     cases h
     cases hx with
     | gone h1=>rw[hs] at h1;cases h1
     | blk h1 _=>rw[hs] at h1;cases h1
     | ref h1 h2 =>
       rw[hs] at h1
       cases h1
       obtain⟨hd,F,k1,k2,k3⟩:=hm.at_ hs;rw[h2] at k1
       cases k1
       have hF:=hF s rfl F k2
       cases ow with
       | true =>
         have ho:=UH k3;obtain⟨v,e,hr⟩:=ho.rd (G:=G) hF 0 _ rfl;simp at e;rw[e];exact hr
       | false =>
         obtain⟨q1,q2,⟨rfl,rfl,_⟩|⟨g,cur,Fs',rfl,q3,q4,q5,q6,q7,rfl⟩⟩:=k3
         · obtain rfl:es=[]:=zz7 (by omega);exact .nil _ _ _
         · have key:∀ i e j d,es[i]? = some e→e[j]? = some d→∃ v,cur[i*P.cellsOf t+j]? = some v∧Rd w G d v:=by
            intro i e j d h1 h2;have hil:i<es.length:=(zz1.1 h1).1;have hf:Fs'[i]? = some (Fs'[i]'(by omega)):=zz0 (by omega);obtain⟨_,_,hr⟩:=q7 i e _ h1 hf;obtain⟨v,hv,hr⟩:=hr j d h2;refine⟨v,?_,hle hr⟩;rw[ACi] at hv;split at hv
            · rw[ACj,Array.getElem?_toList] at hv;exact hv
            · cases hv
           refine .sl t es g 0 _ (P.cellsOf t) (fun i j=>(cur[i*P.cellsOf t+j]?).getD default) (by omega) q2 (hF g (by simp)) q6 ?_ ?_
           · intro i e j d h1 h2;obtain⟨v,hv,_⟩:=key i e j d h1 h2;rw[cell_of_row w g _ cur t (0,0) q3,Nat.zero_add,hv];rfl
           · intro i e j d h1 h2;obtain⟨v,hv,hr⟩:=key i e j d h1 h2;rw[hv];exact hr
   · cases h
 · cases h
theorem NF {Fs:List (List Nat)} {x:V} {y:D} {v:Value} (h:GT sl x=some y) (hm:BM P w0 φ sl w Fs) (hx:VR w (good w0.R φ sl w) φ sl x v):Rd w (·<w.heap.size) y v :=
 J4 h hm hx (fun _ hb=>hb.1) fun s _ F hF b hb=>hm.lt b (A5 hF hb)
theorem Lt {Fs:List (List Nat)} (hm:BM P w0 φ sl w Fs):∀ {xs:List V} {ys:List D} {vs:List Value},IU sl xs=some ys→vs.length=xs.length→(∀ (i:Nat) (x:V) (v:Value),xs[i]? = some x→vs[i]? = some v→VR w (good w0.R φ sl w) φ sl x v) →
 vs.length=ys.length∧∀ (i:Nat) (y:D),ys[i]? = some y→∃ v,vs[i]? = some v∧Rd w (·<w.heap.size) y v
 | [],ys,vs,h,hl,_=>by
   simp[IU] at h;subst h;exact⟨hl,fun i y hy=>by simp at hy⟩
 | x::xs,ys,[],h,hl,_=>by simp at hl
 | x::xs,ys,v::vs,h,hl,hv=>by
   unfold IU at h;split at h
   · rename_i d ds h1 h2
     cases h
     obtain⟨k1,k2⟩:=Lt hm h2 (by simpa using hl) (fun i x v hx hv'=>hv (i+1) x v (by simpa using hx) (by simpa using hv'));refine⟨by simp[k1],fun i y hy=>?_⟩
     match i with
     | 0=>simp at hy;subst hy;exact⟨v,rfl,NF h1 hm (hv 0 x v rfl rfl)⟩
     | i+1=>simp at hy;simpa using k2 i y hy
   · cases h
theorem XD {Fs:List (List Nat)} {x:V} {y:X} {v:Value} (h:Q5 sl x=some y) (hm:BM P w0 φ sl w Fs) (hx:VR w (good w0.R φ sl w) φ sl x v):fH w (·<w.heap.size) y v:=by
 unfold Q5 at h;split at h
 · rename_i xs;rw[Option.map_eq_some_iff] at h;obtain⟨ds,h1,rfl⟩:=h
   cases hx with
   | agg hl hone hv =>
     obtain⟨k1,k2⟩:=Lt hm h1 hl hv;exact .agg ⟨rfl,k1,k2⟩
 · rw[Option.map_eq_some_iff] at h;obtain⟨d,h1,rfl⟩:=h;exact .d (NF h1 hm hx)
theorem KT {Fs:List (List Nat)} (hm:BM P w0 φ sl w Fs):∀ {xs:List V} {ys:List X} {vs:List Value},DU sl xs=some ys→vs.length=xs.length→(∀ (i:Nat) (x:V) (v:Value),xs[i]? = some x→vs[i]? = some v→VR w (good w0.R φ sl w) φ sl x v) →
 vs.length=ys.length∧∀ (i:Nat) (y:X) (v:Value),ys[i]? = some y→vs[i]? = some v→fH w (·<w.heap.size) y v
 | [],ys,vs,h,hl,_=>by
   simp[DU] at h;subst h;exact⟨hl,fun i y v hy=>by simp at hy⟩
 | x::xs,ys,[],h,hl,_=>by simp at hl
 | x::xs,ys,v::vs,h,hl,hv=>by
   unfold DU at h;split at h
   · rename_i d ds h1 h2
     cases h
     obtain⟨k1,k2⟩:=KT hm h2 (by simpa using hl) (fun i x v hx hv'=>hv (i+1) x v (by simpa using hx) (by simpa using hv'));refine⟨by simp[k1],fun i y u hy hu=>?_⟩
     match i with
     | 0=>simp at hy hu;subst hy hu;exact XD h1 hm (hv 0 x v rfl rfl)
     | i+1=>simp at hy hu;exact k2 i y u hy hu
   · cases h
end
def C5 (P:Program) (f:FuncId):Bool :=
 match P.funcs[f]? with
 | some fn => !(fn.name == "runtime.NumGoroutine") && fn.body.isSome
 | none=>false
def CI (P:Program) (f:FuncId) (xs:List X) (r:X):Prop:=C5 P f=true∧Con P f xs r
def jN (P:Program) (f:FuncId) (xs:Option (List X)) (r:X):Prop:=∃ ys,xs=some ys∧CI P f ys r
theorem yO {P:Program} {f:FuncId} {xs:List X} {r:X} (h:CI P f xs r):jN P f (some xs) r:=⟨xs,rfl,h⟩
def I6 (x:V):Option D :=
 match x with
 | .d x=>some x
 | .nil t=>some (.sl t [])
 | _=>none
def BG:List V→Option (List D)
 | []=>some []
 | x::xs=>match I6 x,BG xs with
   | some d,some ds=>some (d::ds)
   | _,_=>none
def Ge (x:V):Bool :=
 match x with
 | .d (.int _ _) | .d (.bool _) | .nil _=>true
 | _=>false
def Ca {α:Type} (s:Nat):Nat→List α→List (List α)
 | 0,_=>[]
 | n+1,xs=>xs.take s::Ca s n (xs.drop s)
def gX (P:Program) (σ:St) (n:Nat) (t:TypeId) (len:Nat) (ps:List (Nat×V)):Option (V×Ag) :=
 match Bt P t with
 | none=>none
 | some e=>match A6 P e with
   | none=>none
   | some z=>if len*z.length≤16777216∧len≤9223372036854775807 then
      match EB (fun i=>some (i*z.length,z.length)) (List.replicate len z).flatten ps with
      | none=>none
      | some cells=>match BG cells with
        | some ds=>some (.ref n,.arr e (cells.all Ge) (Ca z.length len ds))
        | none=>some (.lit n len,.var e cells)
     else none
def Oi (x:V):Option Ky :=
 match x with
 | .agg [.d (.int .i64 a),.d (.bool b)]=>some (a,.inl b)
 | .agg [.d (.int .i64 a),.d (.int .i64 b)]=>some (a,.inr b)
 | _=>none
def Zf (x:V):Option Vl :=
 match x with
 | .d (.int .i64 a)=>some (a,none)
 | .agg [.d (.int .i64 a),.d (.bool b)]=>some (a,some b)
 | _=>none
def vlV (x:Vl):V :=
 match x.2 with
 | none=>.d (.int .i64 x.1)
 | some b=>.agg [.d (.int .i64 x.1),.d (.bool b)]
def E6 (es:List (Ky×Vl)) (k:Ky):Option Vl:=(es.find? fun p=>decide (p.1=k)).map (·.2)
def JI (P:Program) (t:TypeId):Option Vl :=
 match P.underlying t with
 | some (.map _ e)=>match (P.info? e).bind (·.zero) with
   | some (.int .i64 a)=>some (a,none)
   | some (.agg cs)=>match cs.toList with
     | [.int .i64 a,.bool b]=>some (a,some b)
     | _=>none
   | _=>none
 | _=>none
def Sf (ok:Bool) (r:Option Vl) (z:Vl):V:=if ok=true then .tup [vlV (r.getD z),.d (.bool r.isSome)] else vlV (r.getD z)
def IK (sl:List Ag) (x:V):Option (Nat×TypeId×List (Ky×Vl)) :=
 match x with
 | .ref s=>match sl[s]? with
   | some (.blk (.mp t es))=>some (s,t,es)
   | _=>none
 | _=>none
def AQ (P:Program) (st:Bool) (n:Nat) (σ:St) (o:Oper) (x:V) (news:List Ag):Prop :=
 match o.op with
 | .alloc t=>∃ z,A6 P t=some z∧x=.ptr n 0∧news=[.var t z]
 | .makeMap t none=>x=.ref n∧news=[.blk (.mp t [])]
 | .lookup t m k ok=>∃ s es ky z,IK σ.slots (σ.eval m)=some (s,t,es)∧Oi (σ.eval k)=some ky∧JI P t=some z∧Fi P t ky∧x=Sf ok (E6 es ky) z∧news=[]
 | .box t y=>(Ba (σ.eval y)).all V.cell=true∧x=.ptr n 0∧news=[.var t (Ba (σ.eval y))]
 | .buildSlice t len ps=>∃ y,gX P σ n t len (ps.toList.map fun p=>(p.1,σ.eval p.2))=some (x,y)∧news=[y]
 | .makeSlice t l c=>∃ (e:TypeId) (z:List V) (zd:List D) (m:Int),Bt P t=some e∧A6 P e=some z∧BG z=some zd∧z.all Ge=true∧GO (σ.eval l)=some m∧GO (σ.eval c)=some m∧0≤m∧m≤1099511627776∧P.bytesOf e≤128 ∧
    x=.ref n∧news=[.arr e true (List.replicate m.toNat zd)]
 | .call c=>match c.callee with
   | .value v=>match σ.eval v with
     | .fn f caps=>∃ r,jN P f (DU σ.slots (c.args.toList.map σ.eval++caps)) r∧x=(inst n r).1∧news=(inst n r).2
     | _=>False
   | _=>Hv P st σ o=some x∧news=[]
 | _=>Hv P st σ o=some x∧news=[]
section
variable {P:Program} {w0:DP} {w w':World} {φ:B6} {σ:St} {a:Act} {sl:List Ag}
theorem Cb {α:Type} {s:Nat}:∀ (n:Nat) (xs:List α),(Ca s n xs).length=n
 | 0,_=>rfl
 | n+1,xs=>by simp[Ca,Cb n]
theorem Fj {α:Type} {s:Nat}:∀ {n i:Nat} {xs:List α},i<n→(Ca s n xs)[i]? = some ((xs.drop (i*s)).take s)
 | 0,_,_,h=>by omega
 | n+1,0,xs,_=>by simp[Ca]
 | n+1,i+1,xs,h=>by
   simp only[Ca,List.getElem?_cons_succ];rw[Fj (by omega),List.drop_drop,Nat.succ_mul]
   congr 3
   omega
theorem Il:∀ {xs:List V} {ds:List D},BG xs=some ds→ds.length=xs.length∧∀ (i:Nat) (x:V),xs[i]? = some x→∃ d,ds[i]? = some d∧I6 x=some d
 | [],ds,h=>by simp[BG] at h;subst h;exact⟨rfl,fun i x hx=>by simp at hx⟩
 | x::xs,ds,h=>by
   unfold BG at h;split at h
   · rename_i d ds' h1 h2
     cases h
     obtain⟨k1,k2⟩:=Il h2;refine⟨by simp[k1],fun i y hy=>?_⟩
     match i with
     | 0=>simp at hy;subst hy;exact⟨d,rfl,h1⟩
     | i+1=>simp at hy;simpa using k2 i y hy
   · cases h
theorem cU {G:Nat→Prop} {x:V} {d:D} {v:Value} (h:I6 x=some d) (hx:VR w G φ sl x v):Rd w G d v:=by
 unfold I6 at h;split at h
 · cases h;cases hx with|d h=>exact h
 · cases h;cases hx;exact .nil _ _ _
 · cases h
theorem Nw {G:Nat→Prop}:∀ {xs:List V} {ds:List D} {vs:List Value},BG xs=some ds→xs.all Ge=true→VRs w G φ sl xs vs→BW P w ds vs []
 | [],ds,vs,h,_,hv=>by
   simp[BG] at h;subst h;have:=hv.1;simp at this;subst this;exact .nil
 | x::xs,ds,[],h,_,hv=>by have:=hv.1;simp at this
 | x::xs,ds,v::vs,h,hs,hv=>by
   unfold BG at h;split at h
   · rename_i d ds' h1 h2
     cases h
     simp only[List.all_cons,Bool.and_eq_true] at hs;have ih:=Nw h2 hs.2 (vs:=vs) ⟨by have:=hv.1;simpa using this,fun i x v hx hv'=>hv.2 (i+1) x v (by simpa using hx) (by simpa using hv')⟩;have h0:=(hv.2 0 x v rfl rfl).1;have hs1:=hs.1;unfold Ge at hs1;split at hs1
     · obtain rfl:=h0.int;simp[I6] at h1;subst h1;exact .int _ _ ih
     · obtain rfl:=h0.bool;simp[I6] at h1;subst h1;exact .bool _ ih
     · simp[I6] at h1;subst h1;cases h0;exact .none _ ih
     · cases hs1
   · cases h
theorem PU {xs:List V} {ds:List D} (h:BG xs=some ds) (o n:Nat):BG ((xs.drop o).take n)=some ((ds.drop o).take n):=by
 have tk:∀ (n:Nat) (xs:List V) (ds:List D),BG xs=some ds→BG (xs.take n)=some (ds.take n):=by
  intro n
  induction n with
  | zero=>intro xs ds _;rfl
  | succ n ih =>
    intro xs ds h
    cases xs with
    | nil=>simp[BG] at h;subst h;rfl
    | cons x xs =>
      unfold BG at h;split at h
      · rename_i d ds' h1 h2
        cases h
        simp[BG,h1,ih xs ds' h2]
      · cases h
 have dr:∀ (n:Nat) (xs:List V) (ds:List D),BG xs=some ds→BG (xs.drop n)=some (ds.drop n):=by
  intro n
  induction n with
  | zero=>intro xs ds h;exact h
  | succ n ih =>
    intro xs ds h
    cases xs with
    | nil=>simp[BG] at h;subst h;rfl
    | cons x xs =>
      unfold BG at h;split at h
      · rename_i d ds' h1 h2
        cases h
        simpa using ih xs ds' h2
      · cases h
 exact tk n _ _ (dr o xs ds h)
theorem YK {G:Nat→Prop} {xs:List V} {vs:List Value} (h:VRs w G φ sl xs vs) (o n:Nat):VRs w G φ sl ((xs.drop o).take n) ((vs.drop o).take n):=by
 refine⟨by simp[h.1],fun i x v hx hv=>?_⟩;rw[ACi,ACj] at hx hv;split at hx
 · rename_i hi;rw[if_pos hi] at hv;exact h.2 _ x v hx hv
 · cases hx
theorem lX {xs:List V} {p:V→Bool} (h:xs.all p=true) (o n:Nat):((xs.drop o).take n).all p=true:=by
 rw[zz8] at h ⊢;exact fun x hx=>h x (List.mem_of_mem_drop (List.mem_of_mem_take hx))
theorem Ru {G:Nat→Prop} {xs:List V} {ds:List D} {vs:List Value} (h:BG xs=some ds) (hv:VRs w G φ sl xs vs):Rds w G ds vs []:=by
 obtain⟨k1,k2⟩:=Il h;refine⟨rfl,by rw[hv.1,k1],fun i d hd=>?_⟩;have hi:i<xs.length:=by rw[←k1];exact (zz1.1 hd).1
 have hi':i<vs.length:=by rw[hv.1];exact hi
 obtain⟨d',h1,h2⟩:=k2 i _ (zz0 hi);rw[hd] at h1
 cases h1
 exact⟨vs[i],zz0 hi',cU h2 (hv.2 i _ _ (zz0 hi) (zz0 hi')).1⟩
theorem Du {t:TypeId} {z:List V} (h:A6 P t=some z):P.cellsOf t=z.length:=by
 obtain⟨i,v,h1,_,_,h4,_⟩:=Ek h;simp[Program.cellsOf,h1,h4]
theorem Ef {α:Type}:∀ (n:Nat) (z:List α) (i:Nat),i<n*z.length→(List.replicate n z).flatten[i]? = z[i % z.length]?
 | 0,z,i,h=>by omega
 | n+1,z,i,h=>by
   rw[List.replicate_succ,List.flatten_cons];by_cases hi:i<z.length
   · rw[zz4 hi,Nat.mod_eq_of_lt hi]
   · rw[zz5 (by omega),Ef n z _ (by rw[Nat.succ_mul] at h;omega)]
     congr 1
     exact (Nat.mod_eq_sub_mod (by omega)).symm
theorem BZ {α:Type} (n:Nat) (z:List α):(List.replicate n z).flatten.length=n*z.length:=by
 induction n with
 | zero=>simp
 | succ n ih=>rw[List.replicate_succ,List.flatten_cons,ACg,ih,Nat.succ_mul];omega
theorem KU {G:Nat→Prop} {z:List V} {vs:List Value} (h:VRs w G φ sl z vs) (n:Nat):VRs w G φ sl (List.replicate n z).flatten (List.replicate n vs).flatten:=by
 refine⟨by rw[BZ,BZ,h.1],fun i x v hx hv=>?_⟩;have hi:i<n*z.length:=by rw[←BZ];exact (zz1.1 hx).1
 rw[Ef n z i hi] at hx;rw[Ef n vs i (by rw[h.1];exact hi),h.1] at hv;exact h.2 _ x v hx hv
theorem JO (z:Array Value) (n:Nat):madeCells z (n*z.size)=(List.replicate n z.toList).flatten.toArray:=by
 apply Array.ext';apply List.ext_getElem?;intro i;by_cases hi:i<n*z.size
 · rw[Ef n z.toList i (by simpa using hi)]
   have h0:0<z.size:=by
    rcases Nat.eq_zero_or_pos z.size with h|h
    · rw[h] at hi;omega
    · exact h
   have hm:i % z.size<z.size:=Nat.mod_lt _ h0;simp only[madeCells,Array.toList_map,ACF];simp[hi,hm]
 · rw[AB8 (by simp[size_madeCells];omega),AB8 (by rw[BZ];simpa using Nat.le_of_not_lt hi)]
theorem CB {i j:Nat} (h:i<j) (s:Nat):i*s+s≤j*s:=by
 have h1:=Nat.mul_le_mul_right s (show i+1≤j by omega)
 rwa [Nat.succ_mul] at h1
theorem R1 {n len:Nat} {e:TypeId} {cells:List V} {ds:List D} {vs:List Value} (hv:VRs w (good w0.R φ sl w) φ sl cells vs) (hp:BG cells=some ds) (hl:cells.length=len*P.cellsOf e) (hlen:len≤9223372036854775807) :
 ND w0.R P n φ sl w (.ref n) [.arr e (cells.all Ge) (Ca (P.cellsOf e) len ds)] (.slice (some ⟨w.heap.size,0,none⟩) len len) (w.alloc (.cells vs.toArray e)):=by
 have hdl:ds.length=len*P.cellsOf e:=by rw[(Il hp).1,hl]
 refine⟨[(some w.heap.size,len)],[[w.heap.size]],PC,fun φ' sl' he hpl=>⟨fun i y hd F hy hh hF=>?_,?_⟩⟩
 · match i with
   | i+1=>simp at hy
   | 0 =>
     simp at hy hh hF;subst hy hh hF
     have hrow:∀ {R:List D→List Value→List Nat→Prop},(∀ i,i<len→R ((ds.drop (i*P.cellsOf e)).take (P.cellsOf e)) ((vs.drop (i*P.cellsOf e)).take (P.cellsOf e)) []) →
      RowOf P (w.alloc (.cells vs.toArray e)) R e (Ca (P.cellsOf e) len ds) (some w.heap.size) len [w.heap.size]:=by
      intro R hR;refine⟨hlen,by rw[Cb];exact Nat.le_refl _,.inr ⟨w.heap.size,vs.toArray,List.replicate len [],rfl,heap_alloc_new w _,by simp[hv.1,hl],by simp[Cb],fun e' he'=>?_,fun i e' f h1 h2=>?_,?_⟩⟩
      · obtain⟨i,hi,rfl⟩:=List.mem_iff_getElem.1 he';have hil:i<len:=by rw[Cb] at hi;exact hi
        have hc:=Fj (s:=P.cellsOf e) (xs:=ds) hil;rw[zz0 hi] at hc;rw[ACW hc];have:=CB hil (P.cellsOf e);simp[hdl];omega
      · have hil:i<len:=by have:=(zz1.1 h1).1;rw[Cb] at this;exact this
        rw[Fj hil] at h1;rw[List.getElem?_replicate,if_pos hil] at h2
        cases h1
        cases h2
        simpa using hR i hil
      · have:∀ k:Nat,(List.replicate k ([]:List Nat)).flatten=[]:=fun k=>by induction k with|zero=>rfl|succ k ih=>simp[List.replicate_succ,ih]
        rw[this]
     cases hs:cells.all Ge with
     | true=>exact hrow fun i hi=>(Nw (P:=P) (PU hp _ _) (lX hs _ _) (YK hv _ _)).stay (by simp)
     | false=>exact hrow fun i hi=>(Ru (PU hp _ _) (YK hv _ _)).mono he.hk
 · obtain⟨h1,h2⟩:=hpl 0 (by simp);have:=VR.ref (w:=w.alloc (.cells vs.toArray e)) (G:=good w0.R φ' sl' (w.alloc (.cells vs.toArray e))) (by simpa using h1) (by simpa using h2);rw[Cb] at this;exact this
theorem BX {o:Oper} {v:Value} {K:Act→World→Prop} {Q:Exit→Act→World→Prop} (h:(execOp a.eval o).run P w=.ok (.value v) w') (k:K (a.put o.dst v) w'):o.wp P a w K Q:=by
 unfold Oper.wp;rw[h];exact k
theorem jL {t:TypeId} {z:List V} (h:A6 P t=some z):∃ v:Value,(zeroValue t).run P w=.ok v w∧E0 z v.cells.toList=true∧v.cells.size=z.length:=by
 obtain⟨i,v,h1,h2,h3,h4,h5,_⟩:=Ek h;exact⟨v,by simp[zeroValue,typeInfo,h1,h2],h3,by omega⟩
theorem Vr {f:FuncId} (h:C5 P f=true) (args:Array Value):(callFunc f args).run P w=.ok (.enter f args) w:=by
 unfold C5 at h;split at h
 · rename_i fn hf;simp at h;simp[callFunc,hf,h.1];intro hb;simp[hb] at h
 · cases h
theorem Z9 {n len:Nat} {t:TypeId} {ps:List (Nat×V)} {x:V} {y:Ag} (h:gX P σ n t len ps=some (x,y)):∃ e z cells,Bt P t=some e∧A6 P e=some z∧len*z.length≤16777216∧len≤9223372036854775807∧EB (fun i=>some (i*z.length,z.length)) (List.replicate len z).flatten ps=some cells ∧
 ((∃ ds,BG cells=some ds∧x=.ref n∧y=.arr e (cells.all Ge) (Ca z.length len ds))∨(x=.lit n len∧y=.var e cells)):=by
 unfold gX at h;split at h
 · cases h
 rename_i e he;split at h
 · cases h
 rename_i z hz;split at h
 · rename_i hle;split at h
   · cases h
   rename_i cells hc;refine⟨e,z,cells,he,hz,hle.1,hle.2,hc,?_⟩;split at h
   · rename_i ds hd
     cases h
     exact .inl ⟨ds,hd,rfl,rfl⟩
   · cases h
     exact .inr ⟨rfl,rfl⟩
 · cases h
theorem Nc {place:Nat→Option (Nat×Nat)}:∀ {ps:List (Nat×V)} {xs ys:List V},EB place xs ps=some ys→ys.length=xs.length
 | [],xs,ys,h=>by simp[EB] at h;rw[h]
 | (f,x)::ps,xs,ys,h=>by
   unfold EB at h;split at h
   · cases h
   split at h
   · rename_i hc;rw[Nc h,BV (by omega)]
   · cases h
theorem JF {t e:TypeId} {len:Nat} {z cells:List V} {ps:Array (Nat×Operand)} {f:Operand→V} {g:Operand→Value} {G:Nat→Prop} (ht:Bt P t=some e) (hz:A6 P e=some z) (hl:len*z.length≤16777216)
 (hc:EB (fun i=>some (i*z.length,z.length)) (List.replicate len z).flatten (ps.toList.map fun p=>(p.1,f p.2))=some cells) (hv:∀ x,VR w G φ sl (f x) (g x)) :
 ∃ us,(Instr.buildSlice t len (ps.map fun (i,x)=>(i,g x))).run P w=.ok (.slice (some ⟨w.heap.size,0,none⟩) len len) (w.alloc (.cells us.toArray e))∧VRs w G φ sl cells us:=by
 obtain⟨i,v,h1,h2,h3,h4,h5,_⟩:=Ek hz;have hcz:=Du hz
 obtain⟨us,hu,hr⟩:=Je (w:=w) (φ:=φ) (G:=G) (sl:=sl) (place':=fun i=>some (i*z.length,z.length)) (fun f p hp=>hp) (qs:=ps.toList.map fun p=>(p.1,g p.2)) hc (KU (E9 h3) len) (by simp) (fun i p q hp hq=>by
  rw[ACF,Option.map_eq_some_iff] at hp hq;obtain⟨a,ha,rfl⟩:=hp;obtain⟨b,hb,rfl⟩:=hq;rw[ha] at hb
  cases hb
  exact⟨rfl,hv _⟩)
 refine⟨us,?_,hr⟩;have hi:P.info? e=some i:=h1;have hmade:madeCells v.cells (len*v.cells.size)=(List.replicate len v.cells.toList).flatten.toArray:=JO _ _;have hsz:i.size=z.length:=h4;have hle:¬ len*z.length > 2 ^ 24:=by omega
 have hparts:(ps.map fun (i,x)=>(i,g x)).toList=ps.toList.map fun p=>(p.1,g p.2):=by simp
 unfold Instr.buildSlice;have hzv:(zeroValue e).run P w=.ok v w:=by simp[zeroValue,typeInfo,h1,h2]
 simp only[Sem.run_bind,run_underlying (BR ht),Result.andThen_ok,run_sizeOf w hi,hcz,hle,if_false];by_cases h0:len*z.length=0
 · have hnil:(List.replicate len v.cells.toList).flatten.toArray=#[]:=by
    have:(List.replicate len v.cells.toList).flatten=[]:=zz7 (by rw[BZ,Array.length_toList,h5,hsz];exact h0);rw[this]
   rw[hnil] at hu;have hu':=hu;rw[←hparts] at hu';simp at hu';have hz0:Array.map (fun _=>(default:Value)) (Array.range 0)=#[]:=by apply Array.ext' ;simp
   simp[h0,hz0,hu',newRow]
 · have hm2:(Array.range (len*z.length)).map (fun x=>v.cells[x % v.cells.size]!)=(List.replicate len v.cells.toList).flatten.toArray:=by
    rw[←hmade];unfold madeCells;rw[h5,hsz]
   have hu':=hu;rw[←hparts,←hm2] at hu';simp at hu';simp[h0,hzv,hu',newRow]
theorem KL:∀ {xs ys:List V} {ds es:List D},BG xs=some ds→BG ys=some es→BG (xs++ys)=some (ds++es)
 | [],ys,ds,es,h,h'=>by simp[BG] at h;subst h;exact h'
 | x::xs,ys,ds,es,h,h'=>by
   unfold BG at h;split at h
   · rename_i d ds' h1 h2
     cases h
     simp[BG,h1,KL h2 h']
   · cases h
theorem Iz {z:List V} {zd:List D} (h:BG z=some zd):∀ n:Nat,BG (List.replicate n z).flatten=some (List.replicate n zd).flatten
 | 0=>rfl
 | n+1=>by rw[List.replicate_succ,List.flatten_cons,List.replicate_succ,List.flatten_cons];exact KL h (Iz h n)
theorem Iy {α:Type} {s:Nat} {z:List α} (h:z.length=s):∀ {n:Nat},Ca s n (List.replicate n z).flatten=List.replicate n z
 | 0=>rfl
 | n+1=>by
   subst h;rw[List.replicate_succ,List.flatten_cons,Ca,List.take_left',List.drop_left',Iy rfl]<;>rfl
theorem QN {z:List V} {p:V→Bool} (h:z.all p=true) {n:Nat}:(List.replicate n z).flatten.all p=true:=by
 rw[zz8] at h ⊢;intro x hx;obtain⟨l,hl,hx⟩:=List.mem_flatten.1 hx;rw[(List.mem_replicate.1 hl).2] at hx;exact h x hx
theorem VR.fnv {G:Nat→Prop} {f:FuncId} {xs:List V} {v:Value} (h:VR w G φ sl (.fn f xs) v):∃ us:List Value,v=.func (.func f) #[] us.toArray∧us.length=xs.length∧∀ (i:Nat) (x:V) (u:Value),xs[i]? = some x→us[i]? = some u→VR w G φ sl x u:=by
 cases h with
 | fn hl h=>exact⟨_,rfl,hl,h⟩
theorem Ov (hr:Dk P w0 φ σ a w) {args:Array Operand} {caps:List V} {us:List Value} (hl:us.length=caps.length) (h:∀ (i:Nat) (x:V) (u:Value),caps[i]? = some x→us[i]? = some u→VR w (good w0.R φ σ.slots w) φ σ.slots x u) :
 ∀ (i:Nat) (x:V) (v:Value),(args.toList.map σ.eval++caps)[i]? = some x→(args.toList.map a.eval++us)[i]? = some v→VR w (good w0.R φ σ.slots w) φ σ.slots x v:=by
 intro i x v hx hv;by_cases hi:i<args.toList.length
 · rw[zz4 (by simpa using hi),ACF,Option.map_eq_some_iff] at hx hv;obtain⟨p,hp,rfl⟩:=hx;obtain⟨q,hq,rfl⟩:=hv;rw[hp] at hq
   cases hq
   exact hr.eval p
 · rw[zz5 (by simpa using hi)] at hx hv;simp only[ACH] at hx hv;exact h _ x v hx hv
theorem Hs {o:Oper} {c:Call} {y:Operand} {f:FuncId} {us:List Value} (ho:o.op=.call c) (hf:c.callee=.value y) (hus:a.eval y=.func (.func f) #[] us.toArray) (h2:C5 P f=true) :
 (execOp a.eval o).run P w=.ok (.enter f (c.args.toList.map a.eval++us).toArray) w:=by
 have hargs:c.args.map a.eval++us.toArray=(c.args.toList.map a.eval++us).toArray:=by apply Array.ext';simp
 rw[←hargs];simp[execOp,ho,resolve,hf,hus,Deferred.ofValue,invoke,Vr h2]
theorem ZJ {k k':Ky} (h:DO k=DO k'):k=k':=by
 obtain⟨a,b⟩:=k;obtain⟨a',b'⟩:=k'
 cases b<;>cases b'<;>simp[DO] at h<;>simp[h]
theorem TN {G:Nat→Prop} {x:V} {v:Value} {k:Ky} (h:Oi x=some k) (hx:VR w G φ sl x v):v=DO k:=by
 unfold Oi at h;split at h
 · cases h;exact hx.pairb
 · cases h;exact hx.pair
 · cases h
theorem kZ {G:Nat→Prop} {x:V} {v:Value} {k:Vl} (h:Zf x=some k) (hx:VR w G φ sl x v):v=DC k:=by
 unfold Zf at h;split at h
 · cases h;exact hx.int
 · cases h;exact hx.pairb
 · cases h
theorem Tb {G:Nat→Prop} (k:Vl):VR w G φ sl (vlV k) (DC k):=by
 obtain⟨a,b⟩:=k
 cases b with
 | none=>exact .d (.int _ _)
 | some b =>
   refine MC (vs:=[.int .i64 a,.bool b]) rfl fun i x v hx hv=>?_
   match i with
   | 0=>simp at hx hv;subst hx hv;exact⟨.d (.int _ _),rfl⟩
   | 1=>simp at hx hv;subst hx hv;exact⟨.d (.bool _),rfl⟩
   | i+2=>simp at hx
theorem W2 {es:List (Ky×Vl)}:(Cg es).size=es.length:=by simp[Cg]
theorem DI {es:List (Ky×Vl)} {i:Nat}:(Cg es).toList[i]? = (es[i]?).map fun p=>(⟨DO p.1,DC p.2,i⟩:MapEntry):=by
 simp only[Cg,ACF,List.getElem?_zipIdx]
 cases es[i]?<;>simp
theorem Uu {t:TypeId} {es:List (Ky×Vl)} {kt e:TypeId} (ht:P.underlying t=some (.map kt e)) (hk:∀ e∈es,Fi P t e.1):∀ e∈(Cg es).toList,∃ l,keyOf P kt e.key=some l:=fun e he=>by
 obtain⟨i,hi⟩:=List.mem_iff_getElem?.1 he;rw[DI,Option.map_eq_some_iff] at hi;obtain⟨p,hp,rfl⟩:=hi;obtain⟨kt',e',h1,h2,h3⟩:=hk p (zz6 hp);rw[ht] at h1
 cases h1
 exact h3
theorem Yb {es:List (Ky×Vl)} (hn:(es.map (·.1)).Nodup) {i:Nat} {p:Ky×Vl} (h:es[i]? = some p):E6 es p.1=some p.2:=by
 unfold E6
 induction es generalizing i with
 | nil=>simp at h
 | cons q es ih =>
   simp only[List.map_cons,List.nodup_cons] at hn;rw[List.find?_cons]
   cases i with
   | zero=>simp at h;subst h;simp
   | succ i =>
     simp only[List.getElem?_cons_succ] at h;have hne:q.1≠p.1:=fun e=>hn.1 (by rw[e];exact ACP.2 ⟨p,zz6 h,rfl⟩);rw[zz3 hne];exact ih hn.2 h
theorem ZR {es:List (Ky×Vl)} {k:Ky} (h:∀ p∈es,p.1≠k):E6 es k=none:=by
 unfold E6;rw[List.find?_eq_none.2 (fun p hp=>by simpa using h p hp)];rfl
theorem Us {es:List (Ky×Vl)} {k:Ky} (h:E6 es k=none):∀ p∈es,p.1≠k:=fun p hp e=>by
 unfold E6 at h;rw[Option.map_eq_none_iff,List.find?_eq_none] at h;exact h p hp (zz2 e)
theorem Ps {t kt e:TypeId} {es:List (Ky×Vl)} (ht:P.underlying t=some (.map kt e)) (hn:(es.map (·.1)).Nodup) (hk:∀ e∈es,Fi P t e.1) {k:Ky} (hK:Fi P t k) :
 (Instr.checkKey (Cg es).isEmpty 10000 kt (DO k)).run P w=.ok () w∧(Instr.checkKey false 10000 kt (DO k)).run P w=.ok () w∧(Instr.keyThatStays (DO k) (DO k)).run P w=.ok (DO k) w ∧
 (((Instr.findKey kt (DO k) (Cg es).toList).run P w=.ok none w∧E6 es k=none)∨∃ j v,(Instr.findKey kt (DO k) (Cg es).toList).run P w=.ok (some (j,DC v)) w∧es[j]? = some (k,v)∧E6 es k=some v):=by
 obtain⟨kt',e',h1,K,l,hl⟩:=hK;rw[ht] at h1
 cases h1
 refine⟨K.check w _ hl,K.check w _ hl,K.stays w hl,?_⟩;rcases K.find w hl (Cg es).toList (Uu ht hk) with ⟨h2,h3⟩|⟨j,e0,h2,h3,h4⟩
 · refine .inl ⟨h2,ZR fun p hp e=>?_⟩;obtain⟨i,hi⟩:=List.mem_iff_getElem?.1 hp;have hm:(Cg es).toList[i]? = some ⟨DO p.1,DC p.2,i⟩:=by rw[DI,hi];rfl
   exact h3 _ (zz6 hm) (by rw[e])
 · rw[DI,Option.map_eq_some_iff] at h3;obtain⟨p,hp,rfl⟩:=h3;obtain rfl:=ZJ h4;exact .inr ⟨j,p.2,h2,hp,Yb hn hp⟩
theorem OA {Fs:List (List Nat)} {G:Nat→Prop} {x:V} {v:Value} {s:Nat} {t:TypeId} {es:List (Ky×Vl)} (hm:BM P w0 φ sl w Fs) (h:IK sl x=some (s,t,es)) (hx:VR w G φ sl x v) :
 ∃ g c,v=.map (some g)∧φ[s]? = some (some g,c)∧sl[s]? = some (.blk (.mp t es))∧Fs[s]? = some [g]∧w.heap[g]? = some (.map (Cg es) es.length)∧(es.map (·.1)).Nodup∧∀ e∈es,Fi P t e.1:=by
 unfold IK at h;split at h
 · split at h
   · rename_i hs
     cases h
     cases hx with
     | gone h1=>rw[hs] at h1;cases h1
     | ref h1=>rw[hs] at h1;cases h1
     | @blk _ k hh h1 h2 =>
       rw[hs] at h1
       cases h1
       obtain⟨hd,F,k1,k2,k3⟩:=hm.at_ hs;rw[h2] at k1
       cases k1
       obtain⟨g,o,q1,q2,q3,q4,q5,q6⟩:=k3;obtain⟨A,c⟩:=hh
       cases q1
       subst q2 q4;exact⟨g,c,rfl,h2,hs,k2,q3,q5,q6⟩
   · cases h
 · cases h
theorem Qb {t:TypeId} {z:Vl} (h:JI P t=some z):∃ kt e,P.underlying t=some (.map kt e)∧∀ w:World,(zeroValue e).run P w=.ok (DC z) w:=by
 unfold JI at h;split at h
 · rename_i kt e ht;refine⟨kt,e,ht,fun w=>?_⟩
   cases hi:P.info? e with
   | none=>rw[hi] at h;cases h
   | some i =>
     rw[hi] at h;simp only[Option.bind_some] at h
     cases hz:i.zero with
     | none=>rw[hz] at h;cases h
     | some v =>
       rw[hz] at h;have hr:(zeroValue e).run P w=.ok v w:=by simp[zeroValue,typeInfo,hi,hz]
       rw[hr];split at h
       · rename_i a hv
         cases hv;cases h;rfl
       · rename_i cs hv
         cases hv
         split at h
         · rename_i a b hcs
           cases h
           have:cs=#[.int .i64 a,.bool b]:=by apply Array.ext';simpa using hcs
           rw[this];rfl
         · cases h
       · cases h
 · cases h
theorem Mc {Fs:List (List Nat)} {G:Nat→Prop} {t:TypeId} {s:Nat} {es:List (Ky×Vl)} {x y:V} {vx vy:Value} {k:Ky} {z:Vl} (ok:Bool) (hm:BM P w0 φ sl w Fs) (h:IK sl x=some (s,t,es)) (hx:VR w G φ sl x vx) (hk:Oi y=some k) (hy:VR w G φ sl y vy) (hz:JI P t=some z) (hK:Fi P t k) :
 ∃ v,(Instr.lookup t vx vy ok).run P w=.ok v w∧VR w G φ sl (Sf ok (E6 es k) z) v:=by
 obtain⟨g,c,rfl,-,-,-,hb,hn,hks⟩:=OA hm h hx;obtain rfl:=TN hk hy;obtain⟨kt,e,ht,hzr⟩:=Qb hz;obtain⟨c1,-,-,hf⟩:=Ps (w:=w) ht hn hks hK;rcases hf with ⟨f1,f2⟩|⟨j,v,f1,f2,f3⟩
 · refine⟨if ok then .tuple #[DC z,.bool false] else DC z,by simp[Instr.lookup,run_underlying ht,MapKept.run_getObj_map hb,c1,f1,hzr,Result.andThen],?_⟩;rw[f2]
   cases ok with
   | false=>exact Tb z
   | true =>
     refine .tup (vs:=[DC z,.bool false]) rfl fun i x v hx hv=>?_
     match i with
     | 0=>simp at hx hv;subst hx hv;exact Tb z
     | 1=>simp at hx hv;subst hx hv;exact .d (.bool _)
     | i+2=>simp at hx
 · refine⟨if ok then .tuple #[DC v,.bool true] else DC v,by simp[Instr.lookup,run_underlying ht,MapKept.run_getObj_map hb,c1,f1,Result.andThen],?_⟩;rw[f3]
   cases ok with
   | false=>exact Tb v
   | true =>
     refine .tup (vs:=[DC v,.bool true]) rfl fun i x v' hx hv=>?_
     match i with
     | 0=>simp at hx hv;subst hx hv;exact Tb v
     | 1=>simp at hx hv;subst hx hv;exact .d (.bool _)
     | i+2=>simp at hx
theorem bT {n:Nat} {t:TypeId}:ND w0.R P n φ sl w (.ref n) [.blk (.mp t [])] (.map (some w.heap.size)) (w.alloc (.map #[] 0)):=by
 refine⟨[(some w.heap.size,0)],[[w.heap.size]],PC,fun φ' sl' he hpl=>⟨fun i y hd F hy hh hF=>?_,?_⟩⟩
 · match i with
   | 0 =>
     simp at hy hh hF;subst hy hh hF;exact⟨w.heap.size,_,rfl,rfl,heap_alloc_new w _,by simp[Cg],by simp,by simp⟩
   | i+1=>simp at hy
 · obtain⟨h1,h2⟩:=hpl 0 (by simp);exact .blk (k:=.mp t []) (h:=(some w.heap.size,0)) (by simpa using h1) (by simpa using h2)
theorem Ml {st:Bool} (hst:w0.st=st) {n:Nat} {o:Oper} {x:V} {news:List Ag} (h:AQ P st n σ o x news) (hr:Dk P w0 φ σ a w) {K:Act→World→Prop} {Q:Exit→Act→World→Prop} (hK:∀ v w',ND w0.R P n φ σ.slots w x news v w'→K (a.put o.dst v) w'):o.wp P a w K Q:=by
 obtain⟨Fs,hm⟩:=hr.mem
 have pure:Hv P st σ o=some x∧news=[]→o.wp P a w K Q:=by
  rintro⟨h1,rfl⟩;obtain⟨v,h2,h3⟩:=UR hst h1 hr;exact BX h2 (hK v w (PV h3))
 unfold AQ at h;split at h
 · rename_i t ho;obtain⟨z,h1,rfl,rfl⟩:=h;obtain⟨v,h2,h3,h4⟩:=jL (w:=w) h1
   have hrun:(execOp a.eval o).run P w=.ok (.value (.pointer (some ⟨w.heap.size,0,none⟩))) (w.alloc (.cells v.cells t)):=by
    simp[execOp,ho,Instr.alloc,h2,newVar,newRow]
   refine BX hrun (hK _ _ ?_);have:=M0 (P:=P) (n:=n) (t:=t) (E9 (w:=w) (φ:=φ) (G:=good w0.R φ σ.slots w) (sl:=σ.slots) h3) (.ptr n 0) (.pointer (some ⟨w.heap.size,0,none⟩)) (fun φ' sl' w' k1 k2=>.ptr k1 trivial k2);simpa using this
 · rename_i t ho;obtain⟨rfl,rfl⟩:=h
   have hrun:(execOp a.eval o).run P w=.ok (.value (.map (some w.heap.size))) (w.alloc (.map #[] 0)):=by
    have e:(newObj (.map #[] 0)).run P w=.ok w.heap.size (w.alloc (.map #[] 0)):=rfl;simp[execOp,ho,Instr.makeMap,e]
   exact BX hrun (hK _ _ bT)
 · rename_i t m k ok ho;obtain⟨s,es,ky,z,h1,h2,h3,h4,rfl,rfl⟩:=h;obtain⟨v,k1,k2⟩:=Mc ok hm h1 (hr.eval m) h2 (hr.eval k) h3 h4;exact BX (by simp[execOp,ho,k1]) (hK v w (PV k2))
 · rename_i t y ho;obtain⟨h1,rfl,rfl⟩:=h
   have hrun:(execOp a.eval o).run P w=.ok (.value (.pointer (some ⟨w.heap.size,0,none⟩))) (w.alloc (.cells (a.eval y).cells t)):=by
    simp[execOp,ho,Instr.box,newVar,newRow]
   refine BX hrun (hK _ _ ?_);have:=M0 (P:=P) (n:=n) (t:=t) ((hr.eval y).cells h1) (.ptr n 0) (.pointer (some ⟨w.heap.size,0,none⟩)) (fun φ' sl' w' k1 k2=>.ptr k1 trivial k2);simpa using this
 · rename_i t len ps ho;obtain⟨y,h1,rfl⟩:=h;obtain⟨e,z,cells,h2,h3,h4,hl,h5,h6⟩:=Z9 h1;obtain⟨us,h7,h8⟩:=JF (w:=w) (φ:=φ) (sl:=σ.slots) (G:=good w0.R φ σ.slots w) (g:=a.eval) h2 h3 h4 h5 (fun x=>hr.eval x)
   have hrun:(execOp a.eval o).run P w=.ok (.value (.slice (some ⟨w.heap.size,0,none⟩) len len)) (w.alloc (.cells us.toArray e)):=by
    simp at h7;simp[execOp,ho,h7]
   refine BX hrun (hK _ _ ?_);have hcl:cells.length=len*P.cellsOf e:=by rw[Nc h5,BZ,Du h3]
   rcases h6 with ⟨ds,k1,rfl,rfl⟩|⟨rfl,rfl⟩
   · rw[←Du h3];refine R1 h8 k1 hcl hl
   · exact M0 h8 _ _ (fun φ' sl' w' k1 k2=>.lit k1 k2)
 · rename_i t l c ho;obtain⟨e,z,zd,m,h1,h2,h3,h4,h5,h6,h7,h8,h9,rfl,rfl⟩:=h;obtain⟨i,v,k1,k2,k3,k4,k5,_⟩:=Ek h2
   obtain⟨kl,hl⟩:∃ k,a.eval l=.int k m:=by
    unfold GO at h5;split at h5
    · rename_i k m' hk
      cases h5
      have:=hr.eval l;rw[hk] at this;exact⟨k,this.int⟩
    · cases h5
   obtain⟨kc,hc⟩:∃ k,a.eval c=.int k m:=by
    unfold GO at h6;split at h6
    · rename_i k m' hk
      cases h6
      have:=hr.eval c;rw[hk] at this;exact⟨k,this.int⟩
    · cases h6
   have hby:i.bytes≤128:=by simpa [Program.bytesOf,k1] using h9
   have hb1:(i.bytes:Int)*m≤128*1099511627776:=Int.mul_le_mul (by omega) h8 h7 (by omega);have hmk:=run_make (P:=P) (w:=w) t e i v (BR h1) k1 k2 kl kc m m h7 (Int.le_refl _) (by omega) (by omega);rw[←k5,JO] at hmk
   have hrun:(execOp a.eval o).run P w=.ok (.value (.slice (some ⟨w.heap.size,0,none⟩) m.toNat m.toNat)) (w.alloc (.cells (List.replicate m.toNat v.cells.toList).flatten.toArray e)):=by
    simp[execOp,ho,hl,hc,hmk]
   refine BX hrun (hK _ _ ?_);have hvz:=E9 (w:=w) (φ:=φ) (G:=good w0.R φ σ.slots w) (sl:=σ.slots) k3;have:=R1 (P:=P) (n:=n) (len:=m.toNat) (e:=e) (KU hvz m.toNat) (Iz h3 m.toNat) (by rw[BZ,Du h2]) (by omega);rw[Iy (by rw[Du h2];exact (Il h3).1),QN h4] at this;exact this
 · rename_i c ho;split at h
   · rename_i y hf;split at h
     · rename_i f caps hy;obtain⟨r,⟨xs,h1,h2,h3⟩,rfl,rfl⟩:=h;have hv:=hr.eval y;rw[hy] at hv;obtain⟨us,hus,hul,huv⟩:=hv.fnv;obtain⟨k1,k2⟩:=KT hm h1 (vs:=c.args.toList.map a.eval++us) (by simp[hul]) (Ov hr hul huv);have hrun:=Hs (w:=w) (a:=a) (o:=o) (c:=c) ho hf hus h2;unfold Oper.wp;rw[hrun];refine (h3 w _ k1 k2).mono ?_;rintro e w' ⟨v,F,rfl,q1,q2,q3,q4⟩;exact hK v w' (Zp q1 q2 q3 q4)
     · exact h.elim
   · exact pure h
 · exact pure h
end
def kill:List Nat→List Ag→List Ag
 | [],sl=>sl
 | k::ks,sl=>kill ks (sl.set k .dead)
def CT (sl:List Ag):List V→Option (List D×List Nat)
 | []=>some ([],[])
 | x::xs=>match CT sl xs with
   | none=>none
   | some (ds,ks)=>match x with
     | .d (.int k n)=>some (.int k n::ds,ks)
     | .d (.bool b)=>some (.bool b::ds,ks)
     | .nil t=>some (.sl t []::ds,ks)
     | .ref s=>match sl[s]? with
       | some (.arr t true es)=>if s∈ks then none else some (.sl t es::ds,s::ks)
       | _=>none
     | _=>none
def Ds (sl:List Ag):List V→Option (List D×List Nat)
 | []=>some ([],[])
 | x::xs=>match Ds sl xs with
   | none=>none
   | some (ds,ks)=>match x with
     | .d d=>some (d::ds,ks)
     | .nil t=>some (.sl t []::ds,ks)
     | .ref s=>match sl[s]? with
       | some (.arr t _ es)=>if s∈ks then none else some (.sl t es::ds,s::ks)
       | _=>none
     | _=>none
def HM (P:Program) (sl:List Ag) (x:V):Option (D×List Nat) :=
 match x with
 | .lit s n=>match sl[s]? with
   | some (.var e cells)=>match Ds sl cells with
     | some (ds,ks)=>if cells.length=n*P.cellsOf e∧n≤9223372036854775807 then some (.sl e (Ca (P.cellsOf e) n ds),s::ks) else none
     | none=>none
   | _=>none
 | x=>match Ds sl [x] with
   | some ([d],ks)=>some (d,ks)
   | _=>none
def H8 (P:Program) (st:Bool) (t:TypeId) (sl:List Ag) (p y:V):Option (List Ag) :=
 match p with
 | .ptr s o=>match sl[s]? with
   | some (.var t' xs)=>if (Ba y).length=P.cellsOf t∧o+(Ba y).length≤xs.length∧(Ba y).all V.cell=true∧P.cellsOf t≠0 then some (sl.set s (.var t' (A9 xs o (Ba y)))) else none
   | _=>none
 | .eptr s n i j=>match sl[s]? with
   | some (.arr t' ow es)=>match es[i]? with
     | some e=>if n=P.cellsOf t'∧(Ba y).length=P.cellsOf t∧j+(Ba y).length≤e.length∧(Ba y).all V.cell=true∧P.cellsOf t≠0 then
        match ow,CT sl (Ba y) with
        | true,some (ds,ks)=>if s∈ks then none else some (kill ks (sl.set s (.arr t' true (es.set i (A9 e j ds)))))
        | _,_=>if st=false then match Ds sl (Ba y) with
           | some (ds,ks)=>if s∈ks then none else some ((kill ks sl).set s (.arr t' false (es.set i (A9 e j ds))))
           | none=>none
          else none
       else none
     | none=>none
   | _=>none
 | _=>none
abbrev Dj (q:Nat) (Fs:List (List Nat)):Nat:=Fs.flatten.count q
theorem HY (q:Nat):∀ {Fs:List (List Nat)} {s:Nat} {F F':List Nat},Fs[s]? = some F→Dj q (Fs.set s F')+F.count q=Dj q Fs+F'.count q
 | [],s,F,F',h=>by simp at h
 | f::Fs,0,F,F',h=>by
   simp at h;subst h;simp[Dj];omega
 | f::Fs,s+1,F,F',h=>by
   have:=HY q (Fs:=Fs) (s:=s) (F:=F) (F':=F') (by simpa using h);simp[Dj] at this ⊢;omega
theorem Is {Fs Fs':List (List Nat)} (h:Fs.flatten.Nodup) (hc:∀ q,Dj q Fs'≤Dj q Fs):Fs'.flatten.Nodup:=by
 rw[List.nodup_iff_count] at h ⊢;exact fun a=>Nat.le_trans (hc a) (h a)
theorem Om {Fs Fs':List (List Nat)} (hc:∀ q,Dj q Fs'≤Dj q Fs) {q:Nat} (h:q∈Fs'.flatten):q∈Fs.flatten:=by
 rw[←List.count_pos_iff] at h ⊢;exact ACM h (hc q)
def FJ:List Nat→List (List Nat)→List (List Nat)
 | [],Fs=>Fs
 | k::ks,Fs=>FJ ks (Fs.set k [])
theorem DK:∀ (ks:List Nat) (Fs:List (List Nat)),(FJ ks Fs).length=Fs.length
 | [],_=>rfl
 | k::ks,Fs=>by rw[FJ,DK ks,ACh]
theorem BF:∀ (ks:List Nat) (sl:List Ag),(kill ks sl).length=sl.length
 | [],_=>rfl
 | k::ks,sl=>by rw[kill,BF ks,ACh]
theorem Gu:∀ (ks:List Nat) (Fs:List (List Nat)) (s:Nat),(FJ ks Fs)[s]? = if s∈ks∧s<Fs.length then some [] else Fs[s]?
 | [],Fs,s=>by simp[FJ]
 | k::ks,Fs,s=>by
   rw[FJ,Gu ks,ACh];by_cases h1:s∈ks∧s<Fs.length
   · rw[if_pos h1,if_pos ⟨by simp[h1.1],h1.2⟩]
   · rw[if_neg h1];by_cases h2:k=s
     · subst h2;by_cases h3:k<Fs.length
       · rw[ACf h3,if_pos ⟨by simp,h3⟩]
       · rw[if_neg (fun h=>h3 h.2),AB8 (by simp;omega),AB8 (by omega)]
     · rw[ACT h2,if_neg (fun h=>h1 ⟨(List.mem_cons.1 h.1).resolve_left (fun e=>h2 e.symm),h.2⟩)]
theorem FD:∀ (ks:List Nat) (sl:List Ag) (s:Nat),(kill ks sl)[s]? = if s∈ks∧s<sl.length then some .dead else sl[s]?
 | [],sl,s=>by simp[kill]
 | k::ks,sl,s=>by
   rw[kill,FD ks,ACh];by_cases h1:s∈ks∧s<sl.length
   · rw[if_pos h1,if_pos ⟨by simp[h1.1],h1.2⟩]
   · rw[if_neg h1];by_cases h2:k=s
     · subst h2;by_cases h3:k<sl.length
       · rw[ACf h3,if_pos ⟨by simp,h3⟩]
       · rw[if_neg (fun h=>h3 h.2),AB8 (by simp;omega),AB8 (by omega)]
     · rw[ACT h2,if_neg (fun h=>h1 ⟨(List.mem_cons.1 h.1).resolve_left (fun e=>h2 e.symm),h.2⟩)]
def AH (Fs:List (List Nat)) (ks:List Nat):List Nat:=(ks.map fun k=>(Fs[k]?).getD []).flatten
theorem Dr (q:Nat):∀ {ks:List Nat} {Fs:List (List Nat)},ks.Nodup→(∀ k∈ks,k<Fs.length)→Dj q (FJ ks Fs)+(AH Fs ks).count q=Dj q Fs
 | [],Fs,_,_=>by simp[FJ,AH]
 | k::ks,Fs,hn,hl=>by
   have hk:k<Fs.length:=hl k (by simp);have hF:Fs[k]? = some Fs[k]:=zz0 hk;rw[List.nodup_cons] at hn;have ih:=Dr q (ks:=ks) (Fs:=Fs.set k []) hn.2 (fun j hj=>by rw[ACh];exact hl j (by simp[hj]));have hset:=HY q (F':=[]) hF
   have hof:AH (Fs.set k []) ks=AH Fs ks:=by
    unfold AH
    congr 1
    apply List.map_congr_left;intro j hj;rw[ACT (fun e:k=j=>hn.1 (by rw[e];exact hj))]
   rw[hof] at ih;have hc:AH Fs (k::ks)=Fs[k]++AH Fs ks:=by simp[AH,hF]
   rw[FJ,hc,List.count_append];simp only[List.count_nil,Nat.add_zero] at hset;omega
section
variable {P:Program} {w0:DP} {w w':World} {φ φ':B6} {σ:St} {a:Act} {sl sl':List Ag} {Fs Fs':List (List Nat)}
def Turn (P:Program) (w0:DP) (φ:B6) (sl:List Ag) (w:World) (φ':B6) (sl':List Ag) (w':World):Prop:=(∃ Fs',BM P w0 φ' sl' w' Fs')∧jZ w0.R φ sl w φ' sl' w'
theorem BM.turn (h:BM P w0 φ sl w Fs) {S:List Nat} (hO:CO S w w') (hS:∀ b∈S,top φ sl b∨w.heap.size≤b) (hl:φ'.length=sl'.length) (hF:Fs'.length=sl'.length) (nd:Fs'.flatten.Nodup) (ge:∀ g∈Fs'.flatten,w0.B g∨w0.w.heap.size≤g)
 (hs:∀ (s:Nat) (x:Ag),sl[s]? = some x→∃ x',sl'[s]? = some x'∧Later x x') (hp:∀ (s:Nat) (h:Option Nat×Nat),φ[s]? = some h→sl[s]?≠some .unborn→φ'[s]? = some h) (hT:∀ b,top φ' sl' b→w.heap.size≤b∨top φ sl b)
 (hn:∀ (s:Nat) (x:Ag) (h:Option Nat×Nat) (F:List Nat),sl'[s]? = some x→φ'[s]? = some h→Fs'[s]? = some F→(sl[s]? = some x∧φ[s]? = some h∧Fs[s]? = some F∧∀ b∈F,b∉S)∨SR P w' (good w0.R φ' sl' w') φ' sl' x h F) :
 Turn P w0 φ sl w φ' sl' w':=⟨⟨Fs',h.step hO hS hl hF nd ge hs hp hT hn⟩,EG hO hS hT,hs,hp⟩
theorem Turn.refl (h:∃ Fs,BM P w0 φ sl w Fs):Turn P w0 φ sl w φ sl w:=⟨h,fun _ hb=>⟨hb,fun _=>rfl⟩,fun s x hx=>⟨x,hx,Later.refl x⟩,fun _ _ h _=>h⟩
theorem Dk.turn (h:Dk P w0 φ σ a w) (ht:Turn P w0 φ σ.slots w φ' sl' w') {x:V} {v:Value} (hx:VR w' (good w0.R φ' sl' w') φ' sl' x v) (dst:Option Nat):Dk P w0 φ' (St.put ⟨σ.tmps,sl'⟩ dst x) (a.put dst v) w':=by
 obtain⟨hm,he⟩:=ht;have old:∀ (i:Nat) (y:V) (u:Value),σ.tmps[i]? = some y→a.tmps[i]? = some u→VR w' (good w0.R φ' sl' w') φ' sl' y u:=fun i y u hy hu=>(h.tmps i y u hy hu).mono he.hk he.hs he.hp
 cases dst with
 | none=>exact⟨hm,h.defers,h.tlen,old⟩
 | some d =>
   refine⟨hm,h.defers,by simp[Act.put,St.put,h.tlen],fun i y u hy hu=>?_⟩;simp only[St.put,Act.put] at hy hu ⊢;by_cases hd:i=d
   · subst hd;by_cases hl:i<σ.tmps.length
     · rw[ACf hl] at hy;rw[Array.getElem?_setIfInBounds_self_of_lt (by rw[h.tlen];exact hl)] at hu
       cases hy
       cases hu
       exact hx
     · rw[AB8 (by simp;omega)] at hy
       cases hy
   · rw[ACT (fun e=>hd e.symm)] at hy;rw[Array.getElem?_setIfInBounds_ne (fun e=>hd e.symm)] at hu;exact old i y u hy hu
theorem H2 {g:Nat} {cur cs:Array Value} {t:TypeId} (hg:w.heap[g]? = some (.cells cur t (0,0))):CO [g] w (w.setRow g cs)∧(w.setRow g cs).heap[g]? = some (.cells cs t (0,0)) :=
 ⟨⟨rfl,rfl,rfl,by simp,fun k _ hk=>setRow_other w g k cs (by simpa using hk)⟩,setRow_heap w g cur cs t (0,0) hg⟩
theorem Rf (hm:BM P w0 φ sl w Fs) {x:V} {news:List Ag} {v:Value} (h:ND w0.R P sl.length φ sl w x news v w'):∃ φ',Turn P w0 φ sl w φ' (sl++news) w'∧VR w' (good w0.R φ' (sl++news) w') φ' (sl++news) x v:=by
 obtain⟨ψ,Fn,hmade,hq⟩:=h;have hO:CO [] w w':=CO.of_below hmade.below;have hs:∀ (s:Nat) (x:Ag),sl[s]? = some x→∃ x',(sl++news)[s]? = some x'∧Later x x':=fun s x hx=>⟨x,by rw[zz4 (zz1.1 hx).1];exact hx,Later.refl x⟩;have hp:∀ (s:Nat) (h:Option Nat×Nat),φ[s]? = some h→sl[s]?≠some .unborn→(φ++ψ)[s]? = some h:=fun s h hh _=>by rw[zz4 (zz1.1 hh).1];exact hh
 have hT:∀ b,top (φ++ψ) (sl++news) b→w.heap.size≤b∨top φ sl b:=by
  rintro b ⟨s,x,c,h1,h2,h3⟩;by_cases hsl:s<sl.length
  · rw[zz4 hsl] at h1;rw[zz4 (by rw[hm.flen];exact hsl)] at h3;exact .inr ⟨s,x,c,h1,h2,h3⟩
  · rw[zz5 (by rw[hm.flen];omega)] at h3;exact .inl (hmade.hd _ b c h3)
 have he:jZ w0.R φ sl w (φ++ψ) (sl++news) w':=⟨EG hO (by simp) hT,hs,hp⟩;obtain⟨q1,q2⟩:=hq _ _ he (fun i hi=>⟨by rw[zz5 (by omega),Nat.add_sub_cancel_left],by rw[zz5 (by rw[hm.flen];omega),hm.flen,Nat.add_sub_cancel_left]⟩);refine⟨φ++ψ,hm.turn (Fs':=Fs++Fn) hO (by simp) (by simp[hm.flen,hmade.plen]) (by simp[hm.Flen,hmade.Flen]) ?_ ?_ hs hp hT ?_,q2⟩
 · rw[ACK,List.nodup_append];refine⟨hm.nd,hmade.nd,fun x hx y hy e=>?_⟩;have h1:=hm.lt x hx;have h2:=hmade.ge y hy;omega
 · intro g hg;rw[ACK,ACE] at hg;rcases hg with hg|hg
   · exact hm.ge g hg
   · have:=hmade.ge g hg;have:=hm.only.size;exact .inr (by omega)
 · intro s x h F h1 h2 h3;by_cases hsl:s<sl.length
   · rw[zz4 hsl] at h1;rw[zz4 (by rw[hm.flen];exact hsl)] at h2;rw[zz4 (by rw[hm.Flen];exact hsl)] at h3;exact .inl ⟨h1,h2,h3,by simp⟩
   · rw[zz5 (by omega)] at h1;rw[zz5 (by rw[hm.flen];omega),hm.flen] at h2;rw[zz5 (by rw[hm.Flen];omega),hm.Flen] at h3;exact .inr (q1 _ x h F h1 h2 h3)
theorem Later.trans {x y z:Ag} (h:Later x y) (k:Later y z):Later x z:=by
 cases x<;>cases y<;>simp only[Later] at h<;>cases z<;>simp only[Later] at k ⊢
 · omega
 · exact fun q=>(k q).trans (h q)
theorem Turn.trans {w1:World} {φ1:B6} {sl1:List Ag} (hl:φ.length=sl.length) (h:Turn P w0 φ sl w φ1 sl1 w1) (k:Turn P w0 φ1 sl1 w1 φ' sl' w'):Turn P w0 φ sl w φ' sl' w':=by
 refine⟨k.1,fun b hb=>?_,fun s x hx=>?_,fun s hd hh hu=>?_⟩
 · obtain⟨h1,h2⟩:=h.2.hk b hb;obtain⟨k1,k2⟩:=k.2.hk b h1;exact⟨k1,fun o=>(k2 o).trans (h2 o)⟩
 · obtain⟨y,h1,h2⟩:=h.2.hs s x hx;obtain⟨z,k1,k2⟩:=k.2.hs s y h1;exact⟨z,k1,h2.trans k2⟩
 · refine k.2.hp s hd (h.2.hp s hd hh hu) fun hu'=>?_;have hs:s<sl.length:=by rw[←hl];exact (zz1.1 hh).1
   obtain⟨y,h1,h2⟩:=h.2.hs s _ (zz0 hs);rw[h1] at hu'
   cases hu'
   exact h2.unborn (fun e=>hu (by rw[zz0 hs,e])) rfl
theorem Gt (hst:w0.st=false) (hm:BM P w0 φ sl w Fs) {ks:List Nat} (hks:ks.Nodup) (hk:∀ k∈ks,∃ x,sl[k]? = some x∧x.live) :
 Turn P w0 φ sl w φ (kill ks sl) w∧(∀ b,good w0.R φ sl w b→good w0.R φ (kill ks sl) w b)∧∀ k∈ks,∀ F,Fs[k]? = some F→∀ b∈F,good w0.R φ (kill ks sl) w b:=by
 have hkl:∀ k∈ks,k<sl.length:=fun k h=>by obtain⟨_,h1,_⟩:=hk k h;exact (zz1.1 h1).1
 have hcnt:∀ q,Dj q (FJ ks Fs)≤Dj q Fs:=fun q=>by have:=Dr q hks (fun k h=>by rw[hm.Flen];exact hkl k h);omega
 have old:∀ {i:Nat} {x:Ag},(kill ks sl)[i]? = some x→(i∈ks∧x=.dead)∨(i∉ks∧sl[i]? = some x):=by
  intro i x hx;rw[FD] at hx;by_cases h:i∈ks∧i<sl.length
  · rw[if_pos h] at hx;cases hx;exact .inl ⟨h.1,rfl⟩
  · rw[if_neg h] at hx;exact .inr ⟨fun hi=>h ⟨hi,hkl i hi⟩,hx⟩
 have hT:∀ b,top φ (kill ks sl) b→top φ sl b:=by
  rintro b ⟨s,x,c,h1,h2,h3⟩;rcases old h1 with ⟨_,rfl⟩|⟨_,h1⟩
  · exact h2.elim
  · exact⟨s,x,c,h1,h2,h3⟩
 have hlt:∀ (s:Nat) (x:Ag),sl[s]? = some x→∃ x',(kill ks sl)[s]? = some x'∧Later x x':=by
  intro s x hx;rw[FD];by_cases h:s∈ks∧s<sl.length
  · obtain⟨x',h1,h2⟩:=hk s h.1;rw[hx] at h1
    cases h1
    exact⟨.dead,by rw[if_pos h],by cases x<;>simp_all [Ag.live,Later]⟩
  · exact⟨x,by rw[if_neg h];exact hx,Later.refl x⟩
 have ht:Turn P w0 φ sl w φ (kill ks sl) w:=by
  refine hm.turn (Fs':=FJ ks Fs) (CO.refl [] w) (by simp) (by rw[BF,hm.flen]) (by rw[BF,DK,hm.Flen]) (Is hm.nd hcnt) (fun q hq=>hm.ge q (Om hcnt hq)) hlt (fun _ _ h _=>h) (fun b hb=>.inr (hT b hb)) (fun s x h F q1 q2 q3=>?_);rw[Gu] at q3;rcases old q1 with ⟨h1,rfl⟩|⟨h1,q1⟩
  · rw[if_pos ⟨h1,by rw[hm.Flen];exact hkl s h1⟩] at q3
    cases q3
    exact .inr rfl
  · rw[if_neg (fun h=>h1 h.1)] at q3;exact .inl ⟨q1,q2,q3,by simp⟩
 refine⟨ht,fun b hb=>(ht.2.hk b hb).1,fun k hkk F hF b hb=>⟨hm.lt b (A5 hF hb),?_,hm.rd hst (A5 hF hb)⟩⟩;rintro⟨s,x,c,h1,h2,h3⟩;rcases old h1 with ⟨_,rfl⟩|⟨h4,h1⟩
 · exact h2
 · obtain⟨hd,F2,k1,k2,k3⟩:=hm.at_ h1;rw[h3] at k1
   cases k1
   exact Cf hm.nd hF k2 (fun e=>h4 (e▸hkk)) b hb (k3.head h2)
theorem Dv (hm:BM P w0 φ sl w Fs) {G:Nat→Prop} (hG:∀ b,good w0.R φ sl w b→G b):∀ {xs:List V} {ds:List D} {ks:List Nat} {vs:List Value},Ds sl xs=some (ds,ks)→vs.length=xs.length→(∀ (i:Nat) (x:V) (v:Value),xs[i]? = some x→vs[i]? = some v→VR w (good w0.R φ sl w) φ sl x v) →
 ks.Nodup∧(∀ k∈ks,∃ t ow es,sl[k]? = some (.arr t ow es))∧ds.length=xs.length∧((∀ k∈ks,∀ F,Fs[k]? = some F→∀ b∈F,G b)→Rds w G ds vs [])
 | [],ds,ks,vs,h,hl,_=>by
   simp[Ds] at h;obtain⟨rfl,rfl⟩:=h;refine⟨by simp,by simp,rfl,fun _=>⟨rfl,hl,fun i d hd=>by simp at hd⟩⟩
 | x::xs,ds,ks,[],h,hl,_=>by simp at hl
 | x::xs,ds,ks,v::vs,h,hl,hv=>by
   unfold Ds at h;split at h
   · cases h
   rename_i ds' ks' h0;obtain⟨i1,i2,i3,i4⟩:=Dv hm hG h0 (vs:=vs) (by simpa using hl) (fun i x v hx hv'=>hv (i+1) x v (by simpa using hx) (by simpa using hv'));have hx:=hv 0 x v rfl rfl
   have cons:∀ {d:D} {ks2:List Nat},(∀ k∈ks',k∈ks2)→((∀ k∈ks2,∀ F,Fs[k]? = some F→∀ b∈F,G b)→Rd w G d v)→(∀ k∈ks2,∀ F,Fs[k]? = some F→∀ b∈F,G b)→Rds w G (d::ds') (v::vs) []:=by
    intro d ks2 hsub hd hF;obtain⟨_,r1,r2⟩:=i4 (fun k hk=>hF k (hsub k hk));refine⟨rfl,by simp[r1],fun i e he=>?_⟩
    match i with
    | 0=>simp at he;subst he;exact⟨v,rfl,hd hF⟩
    | i+1=>simp at he;simpa using r2 i e he
   split at h
   · cases h
     refine⟨i1,i2,by simp[i3],cons (fun _ h=>h) fun _=>?_⟩
     cases hx with|d h=>exact h.mono fun b hb=>⟨hG b hb,fun _=>rfl⟩
   · cases h
     refine⟨i1,i2,by simp[i3],cons (fun _ h=>h) fun _=>?_⟩
     cases hx
     exact .nil _ _ _
   · split at h
     · rename_i s _ t ow es hs;split at h
       · cases h
       · rename_i hn
         cases h
         refine⟨List.nodup_cons.2 ⟨hn,i1⟩,fun k hk=>?_,by simp[i3],cons (fun k hk=>ACO _ hk) fun hF=>?_⟩
         · rcases List.mem_cons.1 hk with rfl|hk
           · exact⟨_,_,_,hs⟩
           · exact i2 k hk
         · exact J4 (x:=.ref s) (by simp[GT,hs]) hm hx hG fun s' e F hF'=>by cases e;exact hF _ (by simp) F hF'
     · cases h
   · cases h
theorem QW (hst:w0.st=false) (hm:BM P w0 φ sl w Fs) {x:V} {d:D} {ks:List Nat} {v:Value} (h:HM P sl x=some (d,ks)) (hx:VR w (good w0.R φ sl w) φ sl x v) :
 Turn P w0 φ sl w φ (kill ks sl) w∧VR w (good w0.R φ (kill ks sl) w) φ (kill ks sl) (.d d) v:=by
 unfold HM at h;split at h
 · rename_i s n;split at h
   · rename_i e cells hs;split at h
     · rename_i ds ks' hc;split at h
       · rename_i hl
         cases h
         cases hx with
         | litgone h1=>rw[hs] at h1;cases h1
         | @lit _ _ t2 xs g c2 h1 h2 =>
           rw[hs] at h1
           cases h1
           obtain⟨hd,F3,k1,k2,k3⟩:=hm.at_ hs;rw[h2] at k1
           cases k1
           obtain⟨g',cur,e1,e2,e3,e4,e5⟩:=k3
           cases e1
           subst e2;have hcv:∀ (i:Nat) (x:V) (v:Value),cells[i]? = some x→cur.toList[i]? = some v→VR w (good w0.R φ sl w) φ sl x v:=fun i x v hx hv=>(e5 i x v hx (by simpa using hv)).1;obtain⟨f1,f2,_,_⟩:=Dv hm (G:=fun _=>True) (fun _ _=>trivial) hc (vs:=cur.toList) (by simp[e4]) hcv;have hsk:s∉ks':=fun hk=>by obtain⟨_,_,_,h3⟩:=f2 s hk;rw[hs] at h3;cases h3
           obtain⟨t1,t2,t3⟩:=Gt hst hm (ks:=s::ks') (List.nodup_cons.2 ⟨hsk,f1⟩) (fun k hk=>by
            rcases List.mem_cons.1 hk with rfl|hk
            · exact⟨_,hs,trivial⟩
            · obtain⟨_,_,_,h3⟩:=f2 k hk;exact⟨_,h3,trivial⟩)
           refine⟨t1,.d ?_⟩;obtain⟨_,_,f3,f4⟩:=Dv hm (G:=good w0.R φ (kill (s::ks') sl) w) t2 hc (vs:=cur.toList) (by simp[e4]) hcv;obtain⟨_,r1,r2⟩:=f4 (fun k hk=>t3 k (by simp[hk]));have hdl:ds.length=n*P.cellsOf e:=by rw[f3,hl.1]
           have hat:∀ {i:Nat} {x:List D},(Ca (P.cellsOf e) n ds)[i]? = some x→i<n∧x=(ds.drop (i*P.cellsOf e)).take (P.cellsOf e):=by
            intro i x hx;have hi:i<n:=by have:=(zz1.1 hx).1;rwa [Cb] at this
            rw[Fj hi] at hx;exact⟨hi,(ACW hx).symm⟩
           have key:∀ {i:Nat} {x:List D} {j:Nat} {d:D},(Ca (P.cellsOf e) n ds)[i]? = some x→x[j]? = some d→∃ v,cur[i*P.cellsOf e+j]? = some v∧Rd w (good w0.R φ (kill (s::ks') sl) w) d v:=by
            intro i x j d hx hd;obtain⟨_,rfl⟩:=hat hx;rw[ACi,ACj] at hd;split at hd
            · obtain⟨v,h3,h4⟩:=r2 _ d hd;exact⟨v,by simpa using h3,h4⟩
            · cases hd
           have hlen:(Ca (P.cellsOf e) n ds).length=n:=Cb _ _
           have:=Rd.sl (w:=w) (G:=good w0.R φ (kill (s::ks') sl) w) e (Ca (P.cellsOf e) n ds) g 0 n (P.cellsOf e) (fun i j=>(cur[i*P.cellsOf e+j]?).getD default) (by omega) (by omega) (t3 s (by simp) _ k2 g (by simp)) (fun x hx=>?_)
            (fun i x j d hx hd=>by
              obtain⟨v,h3,_⟩:=key hx hd;rw[cell_of_row w g _ cur e (0,0) e3,Nat.zero_add,h3];rfl) (fun i x j d hx hd=>by
              obtain⟨v,h3,h4⟩:=key hx hd;rw[h3]
              exact h4)
           · rw[hlen] at this;exact this
           · obtain⟨i,hi,rfl⟩:=List.mem_iff_getElem.1 hx;obtain⟨hin,he⟩:=hat (zz0 hi);rw[he];have:=CB hin (P.cellsOf e);simp[hdl];omega
       · cases h
     · cases h
   · cases h
 · split at h
   · rename_i h0
     cases h
     have hv1:∀ (i:Nat) (x':V) (v':Value),[x][i]? = some x'→[v][i]? = some v'→VR w (good w0.R φ sl w) φ sl x' v':=by
      intro i x' v' hx' hv'
      match i with
      | 0=>simp at hx' hv';subst hx' hv';exact hx
      | i+1=>simp at hx'
     obtain⟨f1,f2,_,_⟩:=Dv hm (G:=fun _=>True) (fun _ _=>trivial) h0 (vs:=[v]) rfl hv1;obtain⟨t1,t2,t3⟩:=Gt hst hm f1 (fun k hk=>by obtain⟨_,_,_,h3⟩:=f2 k hk;exact⟨_,h3,trivial⟩);refine⟨t1,.d ?_⟩;obtain⟨_,_,_,f4⟩:=Dv hm (G:=good w0.R φ (kill ks sl) w) t2 h0 (vs:=[v]) rfl hv1;obtain⟨_,_,r2⟩:=f4 t3;obtain⟨v',h3,h4⟩:=r2 0 _ rfl;simp at h3;subst h3;exact h4
   · cases h
theorem Nx {t t':TypeId} {g o:Nat} {v:Value} {cur:Array Value} (hz:P.cellsOf t≠0) (hl:v.cells.size=P.cellsOf t) (hg:w.heap[g]? = some (.cells cur t' (0,0))) (ho:o+v.cells.size≤cur.size) (h1:∀ u∈v.cells.toList,u.oneCell'=true) :
 (Instr.storeAt t (.pointer (some ⟨g,o,none⟩)) v).run P w=.ok () (w.setRow g (A9 cur.toList o v.cells.toList).toArray):=by
 have:=run_storeCells_at (P:=P) g o t' v.cells.toList 0 cur w hg (by simpa using ho) h1;simp only[Nat.add_zero] at this;simp[Instr.storeAt,Instr.sureAddr,storeVar,Fg hz,hl,this,A9]
theorem VRs.oneAll {G:Nat→Prop} {xs:List V} {vs:List Value} (h:VRs w G φ sl xs vs):∀ u∈vs,u.oneCell'=true:=by
 intro u hu;obtain⟨i,hi,rfl⟩:=List.mem_iff_getElem.1 hu;exact (h.2 i (xs[i]'(by rw[←h.1];exact hi)) _ (zz0 _) (zz0 hi)).2
theorem Ex {α:Type} {xs:List α} {s i:Nat} {x y:α} (h:(xs.set s x)[i]? = some y):(i=s∧y=x∧s<xs.length)∨(i≠s∧xs[i]? = some y):=by
 by_cases hi:i=s
 · subst hi;have hl:i<xs.length:=by have:=(zz1.1 h).1;simpa using this
   rw[ACf hl] at h;exact .inl ⟨rfl,(ACW h).symm,hl⟩
 · rw[ACT (fun e=>hi e.symm)] at h;exact .inr ⟨hi,h⟩
theorem aW {s o:Nat} {t t':TypeId} {xs:List V} {y:V} {v u:Value} (hm:BM P w0 φ sl w Fs) (hs:sl[s]? = some (.var t' xs)) (h1:(Ba y).length=P.cellsOf t) (h2:o+(Ba y).length≤xs.length) (h3:(Ba y).all V.cell=true) (hz:P.cellsOf t≠0)
 (hp:VR w (good w0.R φ sl w) φ sl (.ptr s o) u) (hy:VR w (good w0.R φ sl w) φ sl y v):∃ w',(Instr.storeAt t u v).run P w=.ok () w'∧Turn P w0 φ sl w φ (sl.set s (.var t' (A9 xs o (Ba y)))) w':=by
 cases hp with
 | lost k1=>rw[hs] at k1;cases k1
 | @ptr _ _ x g c k1 k2 k3 =>
   rw[hs] at k1
   cases k1
   obtain⟨hd,F,k4,k5,k6⟩:=hm.at_ hs;rw[k3] at k4
   cases k4
   obtain⟨g',cur,e1,e2,e3,e4,e5⟩:=k6
   cases e1
   subst e2;have hc:=hy.cells h3;have hcl:v.cells.size=(Ba y).length:=by rw[←hc.1];simp
   have hle:o+v.cells.size≤cur.size:=by rw[hcl,e4];exact h2
   refine⟨_,Nx hz (by rw[hcl,h1]) e3 hle hc.oneAll,?_⟩;obtain⟨hO,hg⟩:=H2 (cs:=(A9 cur.toList o v.cells.toList).toArray) e3;have htop:top φ sl g:=⟨s,_,c,hs,trivial,k3⟩
   have hT:∀ b,top φ (sl.set s (.var t' (A9 xs o (Ba y)))) b→w.heap.size≤b∨top φ sl b:=by
    rintro b ⟨s2,x2,c2,q1,q2,q3⟩;rcases Ex q1 with ⟨rfl,rfl,_⟩|⟨_,q1⟩
    · exact .inr ⟨_,_,c2,hs,trivial,q3⟩
    · exact .inr ⟨s2,x2,c2,q1,q2,q3⟩
   have hsl:∀ (i:Nat) (x:Ag),sl[i]? = some x→∃ x',(sl.set s (.var t' (A9 xs o (Ba y))))[i]? = some x'∧Later x x':=by
    intro i x hx;by_cases hi:i=s
    · subst hi;rw[hs] at hx
      cases hx
      exact⟨_,ACf (zz1.1 hs).1,trivial⟩
    · exact⟨x,by rw[ACT (fun e=>hi e.symm)];exact hx,Later.refl x⟩
   have hS:∀ b∈[g],top φ sl b∨w.heap.size≤b:=fun b hb=>by rw[zz9.1 hb];exact .inl htop
   refine hm.turn (Fs':=Fs) hO hS (by simp[hm.flen]) (by simp[hm.Flen]) hm.nd hm.ge hsl (fun _ _ h _=>h) hT (fun i x h F q1 q2 q3=>?_);rcases Ex q1 with ⟨rfl,rfl,_⟩|⟨hi,q1⟩
   · rw[k3] at q2;rw[k5] at q3
     cases q2
     cases q3
     refine .inr ⟨g,_,rfl,rfl,hg,by simp[BV (xs:=cur.toList) (o:=o) (ys:=v.cells.toList) (by simpa using hle),BV h2,e4],fun j x v' hx hv=>?_⟩;have hcur:VRs w (good w0.R φ sl w) φ sl xs cur.toList:=⟨by simp[e4],fun j x v hx hv=>e5 j x v hx (by simpa using hv)⟩;have:=(hcur.put hc h2).2 j x v' hx (by simpa using hv);exact⟨this.1.mono (EG hO hS hT) hsl (fun _ _ h _=>h),this.2⟩
   · refine .inl ⟨q1,q2,q3,fun b hb hb2=>?_⟩;rw[zz9.1 hb2] at hb;exact Cf hm.nd q3 k5 hi g hb (by simp)
end
section
variable {P:Program} {w0:DP} {w w':World} {φ φ':B6} {σ:St} {a:Act} {sl sl':List Ag} {Fs Fs':List (List Nat)}
theorem Fz (hm:BM P w0 φ sl w Fs):∀ {xs:List V} {ds:List D} {ks:List Nat} {vs:List Value},CT sl xs=some (ds,ks)→VRs w (good w0.R φ sl w) φ sl xs vs →
 BW P w ds vs (AH Fs ks)∧ks.Nodup∧∀ k∈ks,∃ t es,sl[k]? = some (.arr t true es)
 | [],ds,ks,vs,h,hv=>by
   simp[CT] at h;obtain⟨rfl,rfl⟩:=h;have:=hv.1;simp at this;subst this;exact⟨.nil,by simp,by simp⟩
 | x::xs,ds,ks,[],h,hv=>by have:=hv.1;simp at this
 | x::xs,ds,ks,v::vs,h,hv=>by
   have hx:=(hv.2 0 x v rfl rfl).1;unfold CT at h;split at h
   · cases h
   rename_i ds' ks' h';obtain⟨k1,k2,k3⟩:=Fz hm h' (vs:=vs) ⟨by have:=hv.1;simpa using this,fun i x v hx hv'=>hv.2 (i+1) x v (by simpa using hx) (by simpa using hv')⟩;split at h
   · cases h;obtain rfl:=hx.int;exact⟨.int _ _ k1,k2,k3⟩
   · cases h;obtain rfl:=hx.bool;exact⟨.bool _ k1,k2,k3⟩
   · cases h;cases hx;exact⟨.none _ k1,k2,k3⟩
   · rename_i s;split at h
     · rename_i t es hs;split at h
       · cases h
       rename_i hk
       cases h
       cases hx with
       | gone q1=>rw[hs] at q1;cases q1
       | blk q1 _=>rw[hs] at q1;cases q1
       | ref q1 q2 =>
         rw[hs] at q1
         cases q1
         obtain⟨hd,F,q3,q4,q5⟩:=hm.at_ hs;rw[q2] at q3
         cases q3
         have ho:=UH q5;refine⟨?_,List.nodup_cons.2 ⟨hk,k2⟩,fun k hk=>?_⟩
         · have:=ho.append k1;have e:AH Fs (s::ks')=F++AH Fs ks':=by simp[AH,q4]
           rw[e];exact this
         · rcases List.mem_cons.1 hk with rfl|hk
           · exact⟨t,es,hs⟩
           · exact k3 k hk
     · cases h
   · cases h
theorem Mg:∀ {j:Nat} {ds:List D} {vs:List Value} {F:List Nat},BW P w ds vs F→∃ F1 F2,F=F1++F2∧BW P w (ds.take j) (vs.take j) F1∧BW P w (ds.drop j) (vs.drop j) F2
 | 0,ds,vs,F,h=>⟨[],F,rfl,.nil,h⟩
 | j+1,[],vs,F,h=>by cases h;exact⟨[],[],rfl,.nil,.nil⟩
 | j+1,d::ds,vs,F,h=>by
   cases vs with
   | nil=>have:=h.len;simp at this
   | cons v vs =>
     obtain⟨F1,F2,rfl,h1,h2⟩:=RK h;obtain⟨F3,F4,rfl,h3,h4⟩:=Mg (j:=j) h2;exact⟨F1++F3,F4,by simp,by simpa using h1.append h3,h4⟩
theorem gC {j:Nat} {e ds:List D} {vs us:List Value} {f fn:List Nat} (h:BW P w e vs f) (hd:BW P w ds us fn):∃ f1 f2 f3,f=f1++(f2++f3)∧BW P w (A9 e j ds) (A9 vs j us) (f1++fn++f3):=by
 obtain⟨f1,fr,rfl,h1,h2⟩:=Mg (j:=j) h;obtain⟨f2,f3,rfl,h3,h4⟩:=Mg (j:=ds.length) h2;refine⟨f1,f2,f3,rfl,?_⟩;rw[List.drop_drop,List.drop_drop] at h4;have hl:=hd.len;unfold A9;rw[hl];exact (h1.append hd).append h4
theorem lC {G:Nat→Prop} {j:Nat} {e ds:List D} {vs us:List Value} {f fn:List Nat} (h:Rds w G e vs f) (hd:Rds w G ds us fn) (hj:j+ds.length≤e.length):Rds w G (A9 e j ds) (A9 vs j us) []:=by
 have hj':j+us.length≤vs.length:=by rw[h.2.1,hd.2.1];exact hj
 refine⟨rfl,by rw[BV hj,BV hj',h.2.1],fun i d hi=>?_⟩;rw[CS hj] at hi;rw[CS hj',hd.2.1];split at hi
 · rename_i h1;rw[if_pos h1];exact h.2.2 i d hi
 · rename_i h1;rw[if_neg h1];split at hi
   · rename_i h2;rw[if_pos h2];exact hd.2.2 _ d hi
   · rename_i h2;rw[if_neg h2];exact h.2.2 i d hi
theorem mT {cur us:List Value} {s i j:Nat} (hj:j+us.length≤s) (hi:i*s+s≤cur.length):((A9 cur (i*s+j) us).drop (i*s)).take s=A9 ((cur.drop (i*s)).take s) j us:=by
 have hsl:((cur.drop (i*s)).take s).length=s:=by simp;omega
 apply List.ext_getElem?;intro k;rw[ACi,ACj,CS (by omega),CS (by omega),ACi,ACj];by_cases hk:k<s
 · simp only[hk,if_true];by_cases h1:k<j
   · rw[if_pos (by omega),if_pos h1]
   · rw[if_neg (by omega),if_neg h1];by_cases h2:k<j+us.length
     · rw[if_pos (by omega),if_pos h2]
       congr 1
       omega
     · rw[if_neg (by omega),if_neg h2]
 · simp only[hk,if_false];by_cases h1:k<j
   · rw[if_pos h1]
   · rw[if_neg h1,if_neg (by omega)]
theorem Q0 {cur us:List Value} {s i j k:Nat} (hj:j+us.length≤s) (hi:i*s+s≤cur.length) (hk:k≠i):((A9 cur (i*s+j) us).drop (k*s)).take s=(cur.drop (k*s)).take s:=by
 apply List.ext_getElem?;intro q;rw[ACi,ACj,ACi,ACj];by_cases hq:q<s
 · simp only[hq,if_true];rw[CS (by omega)];rcases Nat.lt_or_gt_of_ne hk with h|h
   · have:=CB h s;rw[if_pos (by omega)]
   · have:=CB h s;rw[if_neg (by omega),if_neg (by omega)]
 · simp only[hq,if_false]
theorem YR {R R':List D→List Value→List Nat→Prop} {t:TypeId} {es:List (List D)} {g c i j:Nat} {F:List Nat} {e ds:List D} {us:List Value} {cur:Array Value} (h:RowOf P w R t es (some g) c F) (hg:w.heap[g]? = some (.cells cur t (0,0))) (he:es[i]? = some e)
 (hj:j+ds.length≤e.length) (hu:us.length=ds.length) (hel:e.length=P.cellsOf t)
 (hg':w'.heap[g]? = some (.cells (A9 cur.toList (i*P.cellsOf t+j) us).toArray t (0,0))) (hold:∀ e cs f,(∀ q∈f,q∈F)→R e cs f→R' e cs f) {fn:List Nat}
 (hput:∀ cs f,(∀ q∈f,q∈F)→R e cs f→∃ f',R' (A9 e j ds) (A9 cs j us) f'∧∀ q,f'.count q≤f.count q+fn.count q) :
 ∃ F',RowOf P w' R' t (es.set i (A9 e j ds)) (some g) c F'∧∀ q,F'.count q≤F.count q+fn.count q:=by
 obtain⟨h1,h2,⟨hA,_⟩|⟨g',cur',Gs,hA,h3,h4,h5,h6,h7,rfl⟩⟩:=h
 · cases hA
 cases hA
 rw[hg] at h3
 cases h3
 have hil:=(zz1.1 he).1;have hf:Gs[i]? = some (Gs[i]'(by omega)):=zz0 _;have hmem:∀ {k:Nat} {f:List Nat},Gs[k]? = some f→∀ q∈f,q∈g::Gs.flatten:=fun hk q hq=>ACO _ (A5 hk hq);obtain⟨f',hp1,hp2⟩:=hput _ _ (hmem hf) (h7 i e _ he hf)
 have hle:i*P.cellsOf t+P.cellsOf t≤cur.toList.length:=by
  have:=CB (ACM hil h2) (P.cellsOf t);simpa [h4] using this
 have hjs:j+us.length≤P.cellsOf t:=by rw[hu,←hel];exact hj
 refine⟨g::(Gs.set i f').flatten,⟨h1,by simpa using h2,.inr ⟨g,_,Gs.set i f',rfl,hg',?_,by simp[h5],fun e' he'=>?_,fun k e' f he' hf'=>?_,rfl⟩⟩,fun q=>?_⟩
 · show (A9 cur.toList (i*P.cellsOf t+j) us).length=_;rw[BV (by omega)];simpa using h4
 · rcases List.mem_or_eq_of_mem_set he' with h|h
   · exact h6 e' h
   · rw[h,BV hj,hel]
 · rcases Ex he' with ⟨rfl,rfl,_⟩|⟨hk,he'⟩
   · rcases Ex hf' with ⟨_,rfl,_⟩|⟨hk,_⟩
     · rw[mT hjs hle];exact hp1
     · exact absurd rfl hk
   · rcases Ex hf' with ⟨rfl,_,_⟩|⟨_,hf'⟩
     · exact absurd rfl hk
     · rw[Q0 hjs hle hk];exact hold _ _ _ (hmem hf') (h7 k e' f he' hf')
 · have hc:=HY q (F':=f') hf;have:=hp2 q;simp only[Dj] at hc;simp only[List.count_cons];omega
theorem TM {F:List Nat} {s:Nat} {g:Nat} (hm:BM P w0 φ sl w Fs) (hF:Fs[s]? = some F) (hg:F=g::F.tail) (htop:∀ c b x,sl[s]? = some x→φ[s]? = some (some b,c)→b=g) {q:Nat} (hq:q∈F) (hqg:q≠g) (hlt:q<w.heap.size) (hst:w0.st=false):good w0.R φ sl w q:=by
 refine⟨hlt,?_,hm.rd hst (A5 hF hq)⟩;rintro⟨s2,x2,c2,k1,k2,k3⟩;obtain⟨hd2,F2,k4,k5,k6⟩:=hm.at_ k1;rw[k3] at k4
 cases k4
 have hq2:=k6.head k2;by_cases hss:s2=s
 · subst hss;exact hqg (htop c2 q x2 k1 k3)
 · exact Cf hm.nd hF k5 (fun e=>hss e.symm) q hq hq2
theorem Sb {s n i j:Nat} {t t':TypeId} {ow:Bool} {es:List (List D)} {e:List D} {y:V} {v u:Value} (hm:BM P w0 φ sl w Fs) (hs:sl[s]? = some (.arr t' ow es)) (he:es[i]? = some e) (hn:n=P.cellsOf t') (h1:(Ba y).length=P.cellsOf t) (h2:j+(Ba y).length≤e.length)
 (h3:(Ba y).all V.cell=true) (hz:P.cellsOf t≠0) (hp:VR w (good w0.R φ sl w) φ sl (.eptr s n i j) u) (hy:VR w (good w0.R φ sl w) φ sl y v) :
 ∃ w',(Instr.storeAt t u v).run P w=.ok () w' ∧
   (∀ ds,w0.st=false→BG (Ba y)=some ds→Turn P w0 φ sl w φ (sl.set s (.arr t' false (es.set i (A9 e j ds)))) w') ∧
   (ow=true→∀ ds ks,CT sl (Ba y)=some (ds,ks)→s∉ks→Turn P w0 φ sl w φ (kill ks (sl.set s (.arr t' true (es.set i (A9 e j ds))))) w'):=by
 cases hp with
 | elost k1=>rw[hs] at k1;cases k1
 | qptr k1 _=>rw[hs] at k1;cases k1
 | @eptr _ _ _ _ _ _ _ g c k1 k2 =>
   rw[hs] at k1
   cases k1
   obtain⟨hd,F,k4,k5,k6⟩:=hm.at_ hs;rw[k2] at k4
   cases k4
   have hc:=hy.cells h3;have hcl:v.cells.size=(Ba y).length:=by rw[←hc.1];simp
   have hsl:=(zz1.1 hs).1;have hil:=(zz1.1 he).1
   obtain⟨cur,hg,hsz,hcap,hel,hFg⟩:∃ cur:Array Value,w.heap[g]? = some (.cells cur t' (0,0))∧cur.size=c*P.cellsOf t'∧es.length≤c∧(∀ e∈es,e.length=P.cellsOf t')∧g∈F:=by
    cases ow <;>
    · obtain⟨q1,q2,⟨q3,_⟩|⟨g',cur,Gs,q3,q4,q5,q6,q7,q8,q9⟩⟩:=k6
      · cases q3
      · cases q3;exact⟨cur,q4,q5,q2,q7,by rw[q9];simp⟩
   have hee:=hel e (zz6 he);have hseg:=CB (ACM hil hcap) (P.cellsOf t');have hle:i*n+j+v.cells.size≤cur.size:=by rw[hcl,hsz,hn];omega
   refine⟨_,Nx hz (by rw[hcl,h1]) hg hle hc.oneAll,?_,?_⟩<;>subst hn
   all_goals
    obtain⟨hO,hg'⟩:=H2 (cs:=(A9 cur.toList (i*P.cellsOf t'+j) v.cells.toList).toArray) hg;have htop:top φ sl g:=⟨s,_,c,hs,trivial,k2⟩;have hS:∀ b∈[g],top φ sl b∨w.heap.size≤b:=fun b hb=>by rw[zz9.1 hb];exact .inl htop
   · intro ds hst hds;have hdl:ds.length=(Ba y).length:=(Il hds).1
     have hT:∀ b,top φ (sl.set s (.arr t' false (es.set i (A9 e j ds)))) b→w.heap.size≤b∨top φ sl b:=by
      rintro b ⟨s2,x2,c2,q1,q2,q3⟩;rcases Ex q1 with ⟨rfl,rfl,_⟩|⟨_,q1⟩
      · exact .inr ⟨_,_,c2,hs,trivial,q3⟩
      · exact .inr ⟨s2,x2,c2,q1,q2,q3⟩
     have hlt:∀ (k:Nat) (x:Ag),sl[k]? = some x→∃ x',(sl.set s (.arr t' false (es.set i (A9 e j ds))))[k]? = some x'∧Later x x':=by
      intro k x hx;by_cases hi:k=s
      · subst hi;rw[hs] at hx
        cases hx
        exact⟨_,ACf hsl,by simp[Later]⟩
      · exact⟨x,by rw[ACT (fun e=>hi e.symm)];exact hx,Later.refl x⟩
     have hgm:=EG (R:=w0.R) (φ':=φ) hO hS hT
     have hrd:∀ e cs f,(∀ q∈f,q∈F∧q≠g)→(match ow with|true=>BW P w e cs f|false=>Rds w (good w0.R φ sl w) e cs f)→∃ f',Rds w (good w0.R φ sl w) e cs f':=by
      intro e cs f hq hr
      cases ow with
      | false=>exact⟨f,hr⟩
      | true =>
        refine⟨[],hr.rds fun q hqf=>?_⟩;refine TM (g:=g) hm k5 ?_ (fun c' b x _ hb=>?_) (hq q hqf).1 (hq q hqf).2 (hr.lt q hqf) hst
        · obtain⟨_,_,⟨q3,_⟩|⟨g',_,_,q3,_,_,_,_,_,q9⟩⟩:=k6
          · cases q3
          · cases q3;rw[q9];rfl
        · rw[k2] at hb;cases hb;rfl
     have hrow:RowOf P w (Rds w (good w0.R φ sl w)) t' es (some g) c [g]:=by
      have hnd:=CN hm.nd (zz6 k5)
      cases ow <;>
      · obtain⟨q1,q2,⟨q3,_⟩|⟨g',cur',Gs,q3,q4,q5,q6,q7,q8,q9⟩⟩:=k6
        · cases q3
        · cases q3
          refine⟨q1,q2,.inr ⟨g,cur',List.replicate es.length [],rfl,q4,q5,by simp,q7,fun k e' f hek hfk=>?_,?_⟩⟩
          · have hkl:=(zz1.1 hek).1;rw[List.getElem?_replicate,if_pos hkl] at hfk
            cases hfk
            have hf:Gs[k]? = some (Gs[k]'(by omega)):=zz0 _;rw[q9,List.nodup_cons] at hnd;obtain⟨f',hr1,hr2,hr3⟩:=hrd e' _ _ (fun q hq=>⟨by rw[q9];exact ACO _ (A5 hf hq),fun e=>hnd.1 (e▸A5 hf hq)⟩) (q8 k e' _ hek hf);exact⟨rfl,hr2,hr3⟩
          · have:∀ k:Nat,(List.replicate k ([]:List Nat)).flatten=[]:=fun k=>by induction k with|zero=>rfl|succ k ih=>simp[List.replicate_succ,ih]
            rw[this]
     obtain⟨F',hF1,hF2⟩:=YR (R':=Rds (w.setRow g (A9 cur.toList (i*P.cellsOf t'+j) v.cells.toList).toArray) (good w0.R φ (sl.set s (.arr t' false (es.set i (A9 e j ds)))) (w.setRow g (A9 cur.toList (i*P.cellsOf t'+j) v.cells.toList).toArray)))
      (fn:=[]) (us:=v.cells.toList) (ds:=ds) hrow hg he (by omega) (by simp[hcl,hdl]) hee hg' (fun e cs f _ hr=>hr.mono hgm) (fun cs f _ hr=>⟨[],(lC hr (Ru hds hc) (by omega)).mono hgm,by simp⟩)
     refine hm.turn (Fs':=Fs.set s F') hO hS (by simp[hm.flen]) (by simp[hm.Flen]) ?_ ?_ hlt (fun _ _ h _=>h) hT (fun k x h F2 q1 q2 q3=>?_)
     · refine Is hm.nd fun q=>?_;have:=HY q (F':=F') k5;have h4:=hF2 q
       have h5:[g].count q≤F.count q:=by
        by_cases hq:q=g
        · subst hq;rw[List.count_singleton_self];exact List.count_pos_iff.2 hFg
        · rw[List.count_singleton,if_neg (by simpa using fun e=>hq e.symm)];omega
       simp at h4;omega
     · intro q hq;refine hm.ge q (Om (Fs:=Fs) (fun q=>?_) hq);have:=HY q (F':=F') k5;have h4:=hF2 q
       have h5:[g].count q≤F.count q:=by
        by_cases hq:q=g
        · subst hq;rw[List.count_singleton_self];exact List.count_pos_iff.2 hFg
        · rw[List.count_singleton,if_neg (by simpa using fun e=>hq e.symm)];omega
       simp at h4;omega
     · rcases Ex q1 with ⟨rfl,rfl,_⟩|⟨hi,q1⟩
       · rw[k2] at q2
         cases q2
         rcases Ex q3 with ⟨_,rfl,_⟩|⟨hi,_⟩
         · exact .inr hF1
         · exact absurd rfl hi
       · rcases Ex q3 with ⟨rfl,_,_⟩|⟨_,q3⟩
         · exact absurd rfl hi
         · refine .inl ⟨q1,q2,q3,fun b hb hb2=>?_⟩;rw[zz9.1 hb2] at hb;exact Cf hm.nd q3 k5 hi g hb hFg
   · intro how ds ks htk hsk;subst how;obtain⟨t1,t2,t3⟩:=Fz hm htk hc;have hdl:ds.length=(Ba y).length:=by rw[←t1.len];simp[hcl]
     have hksl:∀ k∈ks,k<sl.length:=fun k hk=>by obtain⟨_,_,hk⟩:=t3 k hk;exact (zz1.1 hk).1
     have hlen2:(sl.set s (.arr t' true (es.set i (A9 e j ds)))).length=sl.length:=ACh ..
     have hat:∀ {k:Nat} {x:Ag},(kill ks (sl.set s (.arr t' true (es.set i (A9 e j ds)))))[k]? = some x→(k∈ks∧x=.dead)∨(k∉ks∧k=s∧x=.arr t' true (es.set i (A9 e j ds)))∨(k∉ks∧k≠s∧sl[k]? = some x):=by
      intro k x hx;rw[FD,hlen2] at hx;split at hx
      · rename_i hk;cases hx;exact .inl ⟨hk.1,rfl⟩
      · rename_i hk;have hkn:k∉ks:=fun hkk=>hk ⟨hkk,hksl k hkk⟩;rcases Ex hx with ⟨rfl,rfl,_⟩|⟨hi,hx⟩
        · exact .inr (.inl ⟨hkn,rfl,rfl⟩)
        · exact .inr (.inr ⟨hkn,hi,hx⟩)
     have hT:∀ b,top φ (kill ks (sl.set s (.arr t' true (es.set i (A9 e j ds))))) b→w.heap.size≤b∨top φ sl b:=by
      rintro b ⟨s2,x2,c2,q1,q2,q3⟩;rcases hat q1 with ⟨_,rfl⟩|⟨_,rfl,rfl⟩|⟨_,_,q1⟩
      · exact q2.elim
      · exact .inr ⟨_,_,c2,hs,trivial,q3⟩
      · exact .inr ⟨s2,x2,c2,q1,q2,q3⟩
     have hlt:∀ (k:Nat) (x:Ag),sl[k]? = some x→∃ x',(kill ks (sl.set s (.arr t' true (es.set i (A9 e j ds)))))[k]? = some x'∧Later x x':=by
      intro k x hx;have hkl:=(zz1.1 hx).1;rw[FD,hlen2];by_cases hk:k∈ks
      · rw[if_pos ⟨hk,hkl⟩];obtain⟨t2,es2,h4⟩:=t3 k hk;rw[hx] at h4
        cases h4
        exact⟨_,rfl,trivial⟩
      · rw[if_neg (fun h=>hk h.1)];by_cases hi:k=s
        · subst hi;rw[hs] at hx
          cases hx
          exact⟨_,ACf hsl,by simp[Later]⟩
        · exact⟨x,by rw[ACT (fun e=>hi e.symm)];exact hx,Later.refl x⟩
     have hfn:∀ q∈AH Fs ks,q≠g:=by
      intro q hq e;subst e;obtain⟨f,hf,hq⟩:=List.mem_flatten.1 hq;obtain⟨k,hk,rfl⟩:=ACP.1 hf;have hkF:Fs[k]? = some (Fs[k]'(by rw[hm.Flen];exact hksl k hk)):=zz0 _;rw[hkF] at hq;exact Cf hm.nd hkF k5 (fun e=>hsk (e▸hk)) q hq hFg
     have hnd:=CN hm.nd (zz6 k5);have hst:∀ {ds cs f},(∀ q∈f,q≠g)→BW P w ds cs f→BW P (w.setRow g (A9 cur.toList (i*P.cellsOf t'+j) v.cells.toList).toArray) ds cs f:=fun hq ho=>ho.stay fun q hqf=>hO.block q (ho.lt q hqf) (by simpa using hq q hqf)
     have hFne:∀ {f:List Nat} {Gs:List (List Nat)} {k:Nat},F=g::Gs.flatten→Gs[k]? = some f→∀ q∈f,q≠g:=fun e hk q hq e2=>by
      rw[e,List.nodup_cons] at hnd;exact hnd.1 (e2▸A5 hk hq)
     have hrow:RowOf P w (fun e cs f=>BW P w e cs f∧∀ q∈f,q≠g) t' es (some g) c F:=by
      obtain⟨q1,q2,⟨q3,_⟩|⟨g',cur',Gs,q3,q4,q5,q6,q7,q8,q9⟩⟩:=k6
      · cases q3
      · cases q3
        exact⟨q1,q2,.inr ⟨g,cur',Gs,rfl,q4,q5,q6,q7,fun k e' f hek hfk=>⟨q8 k e' f hek hfk,hFne q9 hfk⟩,q9⟩⟩
     obtain⟨F',hF1,hF2⟩:=YR (R':=BW P (w.setRow g (A9 cur.toList (i*P.cellsOf t'+j) v.cells.toList).toArray)) (fn:=AH Fs ks) (us:=v.cells.toList) (ds:=ds) hrow hg he (by omega) (by simp[hcl,hdl]) hee hg'
      (fun e cs f _ hr=>hst hr.2 hr.1) (fun cs f _ hr=>by
        obtain⟨f1,f2,f3,e1,h4⟩:=gC (j:=j) hr.1 t1;refine⟨_,hst (fun q hq=>?_) h4,fun q=>?_⟩
        · rcases ACE.1 hq with hq|hq
          · rcases ACE.1 hq with hq|hq
            · exact hr.2 q (by rw[e1];simp[hq])
            · exact hfn q hq
          · exact hr.2 q (by rw[e1];simp[hq])
        · rw[e1];simp only[List.count_append]
          omega)
     have hcnt:∀ q,Dj q (FJ ks (Fs.set s F'))≤Dj q Fs:=by
      intro q;have h4:=HY q (F':=F') k5;have h5:=Dr q (ks:=ks) (Fs:=Fs.set s F') t2 (fun k hk=>by rw[ACh,hm.Flen];exact hksl k hk)
      have h6:AH (Fs.set s F') ks=AH Fs ks:=by
       unfold AH
       congr 1
       apply List.map_congr_left;intro k hk;rw[ACT (fun e:s=k=>hsk (by rw[e];exact hk))]
      rw[h6] at h5;have h7:=hF2 q;omega
     refine hm.turn (Fs':=FJ ks (Fs.set s F')) hO hS (by rw[BF,hlen2,hm.flen]) (by rw[BF,DK,hlen2,ACh,hm.Flen]) (Is hm.nd hcnt) (fun q hq=>hm.ge q (Om hcnt hq)) hlt (fun _ _ h _=>h) hT (fun k x h F2 q1 q2 q3=>?_);rw[Gu,ACh] at q3;rcases hat q1 with ⟨hk,rfl⟩|⟨hk,rfl,rfl⟩|⟨hk,hi,q1⟩
     · rw[if_pos ⟨hk,by rw[hm.Flen];exact hksl k hk⟩] at q3
       cases q3
       exact .inr rfl
     · rw[if_neg (fun h=>hk h.1)] at q3;rw[k2] at q2
       cases q2
       rcases Ex q3 with ⟨_,rfl,_⟩|⟨hi,_⟩
       · exact .inr hF1
       · exact absurd rfl hi
     · rw[if_neg (fun h=>hk h.1)] at q3;rcases Ex q3 with ⟨rfl,_,_⟩|⟨_,q3⟩
       · exact absurd rfl hi
       · refine .inl ⟨q1,q2,q3,fun b hb hb2=>?_⟩;rw[zz9.1 hb2] at hb;exact Cf hm.nd q3 k5 hi g hb hFg
theorem PQ:∀ ds:List D,BG (ds.map .d)=some ds
 | []=>rfl
 | d::ds=>by simp[BG,I6,PQ ds]
theorem Rds.vr_map {G:Nat→Prop} {ds:List D} {vs:List Value} (h:Rds w G ds vs []):∀ (i:Nat) (x:V) (v:Value),(ds.map V.d)[i]? = some x→vs[i]? = some v→VR w G φ sl x v:=by
 intro i x v hx hv;rw[ACF,Option.map_eq_some_iff] at hx;obtain⟨d,hd,rfl⟩:=hx;obtain⟨v',h1,h2⟩:=h.2.2 i d hd;rw[hv] at h1
 cases h1
 exact .d h2
theorem SK (hst:w0.st=false) {s n i j:Nat} {t t':TypeId} {ow:Bool} {es:List (List D)} {e:List D} {y:V} {v u:Value} (hm:BM P w0 φ sl w Fs) (hs:sl[s]? = some (.arr t' ow es)) (he:es[i]? = some e) (hn:n=P.cellsOf t') (h1:(Ba y).length=P.cellsOf t) (h2:j+(Ba y).length≤e.length)
 (h3:(Ba y).all V.cell=true) (hz:P.cellsOf t≠0) (hp:VR w (good w0.R φ sl w) φ sl (.eptr s n i j) u) (hy:VR w (good w0.R φ sl w) φ sl y v) {ds:List D} {ks:List Nat} (hfz:Ds sl (Ba y)=some (ds,ks)) (hk:s∉ks) {w':World}
 (hrun:(Instr.storeAt t u v).run P w=.ok () w'):Turn P w0 φ sl w φ ((kill ks sl).set s (.arr t' false (es.set i (A9 e j ds)))) w':=by
 have hcv:=hy.cells h3;have hcv':∀ (i:Nat) (x:V) (v':Value),(Ba y)[i]? = some x→v.cells.toList[i]? = some v'→VR w (good w0.R φ sl w) φ sl x v':=fun i x v' hx hv=>(hcv.2 i x v' hx hv).1;obtain⟨f1,f2,_,_⟩:=Dv hm (G:=fun _=>True) (fun _ _=>trivial) hfz hcv.1 hcv';obtain⟨t1,t2,t3⟩:=Gt hst hm f1 (fun k hk=>by obtain⟨_,_,_,h3⟩:=f2 k hk;exact⟨_,h3,trivial⟩);obtain⟨_,_,f3,f4⟩:=Dv hm (G:=good w0.R φ (kill ks sl) w) t2 hfz hcv.1 hcv';have hrd:=f4 t3;have hs':(kill ks sl)[s]? = some (.arr t' ow es):=by rw[FD,if_neg (fun h=>hk h.1)];exact hs
 obtain⟨Fs2,hm2⟩:=t1.1
 obtain⟨y2,hy2,hvr⟩:∃ y2:V,Ba y2=ds.map .d∧VR w (good w0.R φ (kill ks sl) w) φ (kill ks sl) y2 v:=by
  by_cases ha:∃ xs,y=.agg xs
  · obtain⟨xs,rfl⟩:=ha;refine⟨.agg (ds.map .d),rfl,?_⟩
    cases hy with
    | agg hl hone hv =>
      rename_i vs;exact .agg (by rw[ACH,f3];exact hl) hone (Rds.vr_map hrd)
  · have hc:Ba y=[y]:=by
     unfold Ba;split
     · exact absurd ⟨_,rfl⟩ ha
     · rfl
    rw[hc] at f3
    match ds,f3 with
    | [d],_ =>
      refine⟨.d d,rfl,?_⟩
      have hv1:v.cells.toList=[v]:=by
       have hvc:v.oneCell'=true:=hy.one (by rw[hc] at h3;simpa using h3)
       cases v<;>first | rfl|simp[Value.oneCell'] at hvc
      rw[hv1] at hrd;exact Rds.vr_map hrd 0 _ _ rfl rfl
 have hpl:BG (Ba y2)=some ds:=by rw[hy2];exact PQ ds
 have hlen:(Ba y2).length=(Ba y).length:=by rw[hy2,ACH,f3]
 obtain⟨w2,k1,k2,_⟩:=Sb (t:=t) (v:=v) (u:=u) hm2 hs' he hn (by rw[hlen];exact h1) (by rw[hlen];exact h2) (by rw[hy2,zz8];intro x hx;obtain⟨d,_,rfl⟩:=ACP.1 hx;rfl) hz (hp.mono t1.2.hk t1.2.hs t1.2.hp) hvr;rw[hrun] at k1
 cases k1
 exact t1.trans hm.flen (k2 ds hst hpl)
theorem Ma {st:Bool} (hst:w0.st=st) {t:TypeId} {p y:V} {u v:Value} (h:H8 P st t sl p y=some sl') (hm:BM P w0 φ sl w Fs) (hp:VR w (good w0.R φ sl w) φ sl p u) (hy:VR w (good w0.R φ sl w) φ sl y v) :
 ∃ w',(Instr.storeAt t u v).run P w=.ok () w'∧Turn P w0 φ sl w φ sl' w':=by
 unfold H8 at h;split at h
 · split at h
   · rename_i hs;split at h
     · rename_i hc
       cases h
       exact aW hm hs hc.1 hc.2.1 hc.2.2.1 hc.2.2.2 hp hy
     · cases h
   · cases h
 · split at h
   · rename_i hs;split at h
     · rename_i he;split at h
       · rename_i hc;obtain⟨w',h1,h2,h3⟩:=Sb hm hs he hc.1 hc.2.1 hc.2.2.1 hc.2.2.2.1 hc.2.2.2.2 hp hy;refine⟨w',h1,?_⟩;split at h
         · rename_i htk;split at h
           · cases h
           · rename_i hk
             cases h
             exact h3 rfl _ _ htk hk
         · split at h
           · rename_i hs0;split at h
             · rename_i ds ks hfz;split at h
               · cases h
               · rename_i hk
                 cases h
                 exact SK (hst.trans hs0) hm hs he hc.1 hc.2.1 hc.2.2.1 hc.2.2.2.1 hc.2.2.2.2 hp hy hfz hk h1
             · cases h
           · cases h
       · cases h
     · cases h
   · cases h
 · cases h
end
section
variable {P:Program} {w0:DP} {w w':World} {φ φ':B6} {σ:St} {a:Act} {sl sl':List Ag} {Fs Fs':List (List Nat)}
theorem JQ {l p:List Value} {n i s:Nat} (h:l.take n=p) (hi:i+s≤n):(l.drop i).take s=(p.drop i).take s:=by
 subst h;apply List.ext_getElem?;intro j;simp only[ACi,ACj];split
 · rw[if_pos (by omega)]
 · rfl
theorem JA {R:List D→List Value→List Nat→Prop} {R':World→List D→List Value→List Nat→Prop} {t ty e:TypeId} {z:List V} {es es2:List (List D)} {A:Option Nat} {c m c2:Nat} {F:List Nat} {ad:Addr} {news:List Value} {Gs:List (List Nat)}
 (ht:Bt P t=some e) (hz:A6 P e=some z) (hz0:P.cellsOf e≠0) (hb:P.bytesOf e≤128) (hr:RowOf P w R e es A c F) (hm:es2.length=m) (hG:Gs.length=m) (hl:news.length=m*P.cellsOf e)
 (hnews:∀ j u,news[j]? = some u→w.cell? (ad.add j)=some u) (hone:∀ u∈news,u.oneCell'=true) (hel:∀ x∈es2,x.length=P.cellsOf e) (how:∀ i x f,es2[i]? = some x→Gs[i]? = some f→R x ((news.drop (i*P.cellsOf e)).take (P.cellsOf e)) f)
 (hlim:es.length+m≤1099511627776) (hold:∀ w',CO A.toList w w'→∀ e cs f,(∀ q∈f,q∈F∨q∈Gs.flatten)→(∀ q∈f,A=some q→(F.count q+Gs.flatten.count q)≤1→False)→R e cs f→R' w' e cs f) (hnd:∀ q,F.count q+Gs.flatten.count q≤1) :
 ∃ (A':Option Nat) (c':Nat) (w':World) (F':List Nat),(Builtin.append_ #[t,t] ty #[.slice (Ga A) es.length c,.slice (some ad) m c2]).run P w=.ok (.slice (Ga A') (es++es2).length c') w'∧CO A.toList w w' ∧
   (∀ g,A'=some g→A=some g∨g=w.heap.size)∧RowOf P w' (R' w') e (es++es2) A' c' F'∧∀ q,F'.count q≤F.count q+Gs.flatten.count q+(if q=w.heap.size then 1 else 0):=by
 obtain⟨i,v,k1,k2,k3,k4,k5,_⟩:=Ek hz;have hcz:=Du hz;have hby:i.bytes≤128:=by simpa [Program.bytesOf,k1] using hb
 have hsz:i.size=P.cellsOf e:=by rw[k4,hcz]
 obtain⟨r1,r2,hcase⟩:=hr
 obtain⟨cells,hrow⟩:∃ cells:List Value,w.ownsRow 0 e (P.cellsOf e) (.slice (Ga A) es.length c) es.length cells:=by
  rcases hcase with ⟨rfl,rfl,rfl⟩|⟨g,cur,Gs0,rfl,h3,h4,h5,h6,h7,rfl⟩
  · obtain rfl:es=[]:=zz7 (by omega);exact⟨[],by simp,.inl ⟨rfl,rfl⟩⟩
  · have hle:es.length*P.cellsOf e≤c*P.cellsOf e:=Nat.mul_le_mul_right _ r2;have hcl:cur.toList.length=c*P.cellsOf e:=by simpa using h4
    exact⟨cur.toList.take (es.length*P.cellsOf e),by rw[ACL,hcl];exact Nat.min_eq_left hle,.inr ⟨g,c,cur,rfl,Nat.zero_le _,h3,r2,by simp only[maxLen];omega,h4,rfl⟩⟩
 have hbb:(es.length+m)*i.bytes≤140737488355328:=Nat.le_trans (Nat.mul_le_mul hlim hby) (by omega);obtain⟨v',w',hrun,q2,q3,_,q5⟩:=run_append_own_at (P:=P) w 0 t ty e i v (P.cellsOf e) i.bytes (BR ht) k1 k2 hsz rfl (by rw[k5,hsz]) (by omega) _ _ _ hrow ad m c2 news hl hnews hone (by simp only[maxLen];omega) hbb (Nat.zero_le _)
 have hOnly:CO A.toList w w':=⟨q3.os,q3.tape,q3.output,q3.size,fun k hk hn=>q3.block k hk (fun e=>hn (by
  cases A with
  | none=>simp[Value.ownBlock] at e
  | some g=>simp[Value.ownBlock] at e;simp[e]))⟩
 have hlen':(es++es2).length=es.length+m:=by simp[hm]
 obtain⟨hl2,q2'⟩:=q2;rcases q2' with ⟨rfl,h0⟩|⟨g',cap,cur',rfl,-,hg,hncap,hcap63,hcs,htake⟩
 · have hx0:es=[]:=zz7 (by omega);have hy0:es2=[]:=zz7 (by omega);subst hx0 hy0;exact⟨none,0,w',[],hrun,hOnly,by simp,⟨by omega,by simp,.inl ⟨rfl,rfl,rfl⟩⟩,by simp⟩
 · have hA':A=some g'∨g'=w.heap.size:=by
    rcases q5 with q5|q5
    · left
      cases A with
      | none=>simp[Value.ownBlock] at q5
      | some g=>simp[Value.ownBlock] at q5;rw[q5]
    · right;simpa [Value.ownBlock] using q5
   obtain⟨Gs0,hGl,hG0,hGF⟩:∃ Gs0:List (List Nat),Gs0.length=es.length∧(∀ i x f,es[i]? = some x→Gs0[i]? = some f→R x ((cells.drop (i*P.cellsOf e)).take (P.cellsOf e)) f∧x.length=P.cellsOf e) ∧
    (∀ q,Gs0.flatten.count q+(if A=some q then 1 else 0)≤F.count q):=by
    rcases hcase with ⟨rfl,rfl,rfl⟩|⟨g,cur,Gs0,rfl,h3,h4,h5,h6,h7,rfl⟩
    · obtain rfl:es=[]:=zz7 (by omega);exact⟨[],rfl,fun i x f hx=>by simp at hx,by simp⟩
    · refine⟨Gs0,h5,fun i x f hx hf=>⟨?_,h6 x (zz6 hx)⟩,fun q=>?_⟩
      · have hil:i<es.length:=(zz1.1 hx).1;obtain⟨_,hc2⟩:=hrow;rcases hc2 with ⟨e1,_⟩|⟨g1,cap1,cur1,e1,_,hg1,_,_,_,ht1⟩
        · cases e1
        · injection e1 with e1 e2 e3;injection e1 with e1;injection e1 with e1;subst e1;rw[h3] at hg1;injection hg1 with hg1;injection hg1 with hg1;subst hg1;rw[←JQ ht1 (CB hil _)];exact h7 i x f hx hf
      · rw[List.count_cons];by_cases hq:g=q
        · subst hq;simp
        · have:¬ (some g=some q):=fun e=>hq (ACW e);rw[if_neg this,if_neg (by simpa using hq)];omega
   have hcl:=hrow.1;refine⟨some g',cap,w',g'::(Gs0++Gs).flatten,by rw[hlen'];exact hrun,hOnly,fun g hg=>by cases hg;exact hA',⟨by simpa only[maxLen] using hcap63,by omega,.inr ⟨g',cur',Gs0++Gs,rfl,hg,hcs,by simp[hGl,hG,hm],fun x hx=>?_,fun j x f hx hf=>?_,rfl⟩⟩,fun q=>?_⟩
   · rcases ACE.1 hx with hx|hx
     · obtain⟨i,hi,rfl⟩:=List.mem_iff_getElem.1 hx;exact (hG0 i _ (Gs0[i]'(by omega)) (zz0 hi) (zz0 _)).2
     · exact hel x hx
   · have hjl:j<es.length+m:=by have:=(zz1.1 hx).1;omega
     have noA:∀ {f:List Nat},(∀ q∈f,1≤Gs0.flatten.count q+Gs.flatten.count q)→∀ q∈f,A=some q→(F.count q+Gs.flatten.count q)≤1→False:=by
      intro f hf q hq hA h1;have h2:=hGF q;have h3:=hf q hq;rw[if_pos hA] at h2;omega
     rw[JQ htake (CB hjl _)];by_cases hj:j<es.length
     · rw[zz4 hj] at hx;rw[zz4 (by omega)] at hf;have hseg:=CB hj (P.cellsOf e)
       have e1:((cells++news).drop (j*P.cellsOf e)).take (P.cellsOf e)=(cells.drop (j*P.cellsOf e)).take (P.cellsOf e):=by
        rw[List.drop_append_of_le_length (by omega),ACN (by simp;omega)]
       rw[e1];have hcnt:∀ q∈f,1≤Gs0.flatten.count q:=fun q hq=>List.count_pos_iff.2 (A5 hf hq);refine hold w' hOnly _ _ _ (fun q hq=>.inl (List.count_pos_iff.1 ?_)) (noA fun q hq=>by have:=hcnt q hq;omega) (hG0 j x f hx hf).1;have h1:=hcnt q hq;have h2:=hGF q;omega
     · rw[zz5 (by omega)] at hx;rw[zz5 (by omega),hGl] at hf
       have e1:((cells++news).drop (j*P.cellsOf e)).take (P.cellsOf e)=(news.drop ((j - es.length)*P.cellsOf e)).take (P.cellsOf e):=by
        have hle:cells.length≤j*P.cellsOf e:=by rw[hcl];exact Nat.mul_le_mul_right _ (by omega)
        rw[List.drop_append,List.drop_eq_nil_of_le hle,List.nil_append,hcl,Nat.sub_mul]
       rw[e1];have hcnt:∀ q∈f,1≤Gs.flatten.count q:=fun q hq=>List.count_pos_iff.2 (A5 hf hq);exact hold w' hOnly _ _ _ (fun q hq=>.inr (A5 hf hq)) (noA fun q hq=>by have:=hcnt q hq;omega) (how _ x f hx hf)
   · have h2:=hGF q;rw[ACK,List.count_cons,List.count_append];by_cases hq:g'=q
     · subst hq;rcases hA' with h|h
       · rw[if_pos h] at h2;simp;omega
       · rw[←h];simp;omega
     · rw[if_neg (by simpa using hq)];omega
end
def Bp (es:List (List D)):Prop:=∀ c∈es,∀ d∈c,A4 d=true
def H0 (sl:List Ag) (e:TypeId) (x:V):Option (Bool×List (List D)×List Nat) :=
 match x with
 | .nil _=>some (true,[],[])
 | .ref s=>match sl[s]? with
   | some (.arr t ow es)=>if t=e then some (ow,es,[s]) else none
   | _=>none
 | _=>none
def QE (sl:List Ag) (y:V):Option (List (List D)×Option Nat) :=
 match y with
 | .nil _=>some ([],none)
 | .d (.sl _ es)=>some (es,none)
 | .ref s=>match sl[s]? with
   | some (.arr _ _ es)=>some (es,some s)
   | _=>none
 | _=>none
def HQ:Nat:=1099511627776
def Lz (P:Program) (sl:List Ag) (t:TypeId) (x y:V) (K:V→List Ag→Prop):Prop :=
 ∃ e ow es ks,Bt P t=some e∧H0 sl e x=some (ow,es,ks)∧(A6 P e).isSome=true∧P.cellsOf e≠0∧P.bytesOf e≤128 ∧
   ((∃ es2 o,QE sl y=some (es2,o)∧(∀ s,o=some s→s∉ks)∧(∀ c∈es2,c.length=P.cellsOf e)∧es.length+es2.length≤HQ∧(ow=true→Bp es2)∧K (.ref sl.length) (kill ks sl++[.arr e ow (es++es2)])) ∨
    (∃ s2 es2,y=.ref s2∧sl[s2]? = some (.arr e true es2)∧s2∉ks∧ow=true∧es.length+es2.length≤HQ∧K (.ref sl.length) (kill (s2::ks) sl++[.arr e true (es++es2)])) ∨
    (∃ s2 n cells ds ks2,y=.lit s2 n∧sl[s2]? = some (.var e cells)∧CT sl cells=some (ds,ks2)∧(∀ k∈ks2,k∉ks)∧cells.length=n*P.cellsOf e∧ow=true∧es.length+n≤HQ ∧
       K (.ref sl.length) (kill (s2::(ks++ks2)) sl++[.arr e true (es++Ca (P.cellsOf e) n ds)])) ∨
    (∃ es2 o,QE sl y=some (es2,o)∧(∀ s,o=some s→s∉ks)∧(∀ c∈es2,c.length=P.cellsOf e)∧es.length+es2.length≤HQ∧K (.ref sl.length) (kill ks sl++[.arr e false (es++es2)])))
def xD (P:Program) (sl:List Ag) (t:TypeId) (x y:V) (K:V→List Ag→Prop):Prop :=
 ∃ e s n es s2 es2,Bt P t=some e∧x=.ref s∧sl[s]? = some (.blk (.que e n es))∧y=.ref s2∧sl[s2]? = some (.arr e true es2)∧(A6 P e).isSome=true∧P.cellsOf e≠0∧P.bytesOf e≤128∧n=P.cellsOf e∧(∀ c∈es2,∀ d∈c,A4 d=true)∧es.length+es2.length≤HQ ∧
   K (.ref sl.length) (kill [s2,s] sl++[.blk (.que e n (es++es2))])
def IV (P:Program) (st:Bool) (sl:List Ag) (t:TypeId) (x y:V) (K:V→List Ag→Prop):Prop :=
 st=false∧(Lz P sl t x y K∨∃ d ks,HM P sl y=some (d,ks)∧Lz P (kill ks sl) t x (.d d) K)
section
variable {P:Program} {w0:DP} {w w':World} {φ φ':B6} {σ:St} {a:Act} {sl sl':List Ag} {Fs Fs':List (List Nat)}
theorem C0 (hm:BM P w0 φ sl w Fs) {ks:List Nat} (hks:ks.Nodup) (hkv:∀ k∈ks,∃ x,sl[k]? = some x∧x.live) {A A':Option Nat} (hA:∀ g,A=some g→∃ s∈ks,∃ c,φ[s]? = some (some g,c)) {c':Nat} {F':List Nat} {y:Ag}
 (hO:CO A.toList w w') (hA':∀ g,A'=some g→A=some g∨g=w.heap.size) (hsr:∀ φ' sl',jZ w0.R φ sl w φ' sl' w'→SR P w' (good w0.R φ' sl' w') φ' sl' y (A',c') F') (hc:∀ q,F'.count q≤(AH Fs ks).count q+(if q=w.heap.size then 1 else 0)) :
 Turn P w0 φ sl w (φ++[(A',c')]) (kill ks sl++[y]) w':=by
 have hkl:∀ k∈ks,k<sl.length:=fun k hk=>by obtain⟨_,h,_⟩:=hkv k hk;exact (zz1.1 h).1
 have hkn:(kill ks sl).length=sl.length:=BF _ _
 have hat:∀ {k:Nat} {x:Ag},(kill ks sl++[y])[k]? = some x→(k∈ks∧x=.dead)∨(k∉ks∧sl[k]? = some x)∨(k=sl.length∧x=y):=by
  intro k x hx;by_cases hk:k<sl.length
  · rw[zz4 (by omega),FD] at hx;by_cases hkk:k∈ks
    · rw[if_pos ⟨hkk,hk⟩] at hx;cases hx;exact .inl ⟨hkk,rfl⟩
    · rw[if_neg (fun h=>hkk h.1)] at hx;exact .inr (.inl ⟨hkk,hx⟩)
  · rw[zz5 (by omega),hkn] at hx;have:=(zz1.1 hx).1;simp at this;have h0:k - sl.length=0:=by omega
    rw[h0] at hx
    cases hx
    exact .inr (.inr ⟨by omega,rfl⟩)
 have hpl:∀ {k:Nat},k<sl.length→(φ++[(A',c')])[k]? = φ[k]?:=fun hk=>zz4 (by rw[hm.flen];exact hk);have hph:(φ++[(A',c')])[sl.length]? = some (A',c'):=by rw[zz5 (by rw[hm.flen];exact Nat.le_refl _),hm.flen];simp
 have hAtop:∀ g,A=some g→top φ sl g:=fun g hg=>by
  obtain⟨s,hs,c,hp⟩:=hA g hg;obtain⟨x,hx,hl⟩:=hkv s hs;exact⟨s,x,c,hx,hl,hp⟩
 have hS:∀ b∈A.toList,top φ sl b∨w.heap.size≤b:=fun b hb=>.inl (hAtop b (by simpa using hb))
 have hT:∀ b,top (φ++[(A',c')]) (kill ks sl++[y]) b→w.heap.size≤b∨top φ sl b:=by
  rintro b ⟨s2,x2,c2,q1,q2,q3⟩;rcases hat q1 with ⟨_,rfl⟩|⟨_,q1⟩|⟨rfl,rfl⟩
  · exact q2.elim
  · rw[hpl (zz1.1 q1).1] at q3;exact .inr ⟨s2,x2,c2,q1,q2,q3⟩
  · rw[hph] at q3
    cases q3
    rcases hA' b rfl with h|h
    · exact .inr (hAtop b h)
    · exact .inl (by omega)
 have hlt:∀ (k:Nat) (x:Ag),sl[k]? = some x→∃ x',(kill ks sl++[y])[k]? = some x'∧Later x x':=by
  intro k x hx;have hkl':=(zz1.1 hx).1;rw[zz4 (by omega),FD];by_cases hk:k∈ks
  · rw[if_pos ⟨hk,hkl'⟩];obtain⟨x2,h4,h5⟩:=hkv k hk;rw[hx] at h4
    cases h4
    refine⟨_,rfl,?_⟩
    cases x<;>first | exact h5.elim|trivial
  · rw[if_neg (fun h=>hk h.1)];exact⟨x,hx,Later.refl x⟩
 have hp:∀ (s:Nat) (h:Option Nat×Nat),φ[s]? = some h→sl[s]?≠some .unborn→(φ++[(A',c')])[s]? = some h:=fun s h hh _=>by rw[zz4 (zz1.1 hh).1];exact hh
 have he:jZ w0.R φ sl w (φ++[(A',c')]) (kill ks sl++[y]) w':=⟨EG hO hS hT,hlt,hp⟩;have hkF:∀ k∈ks,k<Fs.length:=fun k hk=>by rw[hm.Flen];exact hkl k hk
 have hcnt:∀ q,Dj q (FJ ks Fs++[F'])≤Dj q Fs+(if q=w.heap.size then 1 else 0):=by
  intro q;have h1:=Dr q hks hkF;have h2:=hc q;simp only[Dj,ACK,List.count_append,List.flatten_cons,List.flatten_nil,List.append_nil] at h1 ⊢;omega
 refine hm.turn (Fs':=FJ ks Fs++[F']) hO hS (by simp[hm.flen,hkn]) (by simp[DK,hm.Flen,hkn]) ?_ (fun q hq=>?_) hlt hp hT (fun k x h F2 q1 q2 q3=>?_)
 · rw[List.nodup_iff_count];intro q;have h1:=hcnt q;have h2:=List.nodup_iff_count.1 hm.nd q;simp only[Dj] at h1;by_cases hq:q=w.heap.size
   · have h3:Fs.flatten.count q=0:=List.count_eq_zero.2 fun h=>by have:=hm.lt q h;omega
     rw[if_pos hq] at h1;omega
   · rw[if_neg hq] at h1;omega
 · have h1:=hcnt q;have h2:=List.count_pos_iff.2 hq;by_cases hq2:q=w.heap.size
   · have:=hm.only.size;exact .inr (by omega)
   · rw[if_neg hq2] at h1;exact hm.ge q (List.count_pos_iff.1 (by simp only[Dj] at h1;omega))
 · rcases hat q1 with ⟨hk,rfl⟩|⟨hk,q1⟩|⟨rfl,rfl⟩
   · have hkl':=hkl k hk;rw[zz4 (by rw[DK,hm.Flen];exact hkl'),Gu,if_pos ⟨hk,hkF k hk⟩] at q3
     cases q3
     exact .inr rfl
   · have hkl':=(zz1.1 q1).1;rw[hpl hkl'] at q2;rw[zz4 (by rw[DK,hm.Flen];exact hkl'),Gu,if_neg (fun h=>hk h.1)] at q3;refine .inl ⟨q1,q2,q3,fun b hb hb2=>?_⟩;have hbA:A=some b:=by simpa using hb2
     obtain⟨s,hs,c,hps⟩:=hA b hbA;obtain⟨x2,hx2,hl2⟩:=hkv s hs;obtain⟨hd,F3,k4,k5,k6⟩:=hm.at_ hx2;rw[hps] at k4
     cases k4
     exact Cf hm.nd q3 k5 (fun e=>hk (e▸hs)) b hb (k6.head hl2)
   · rw[hph] at q2
     cases q2
     rw[zz5 (by rw[DK,hm.Flen];exact Nat.le_refl _),DK,hm.Flen] at q3;simp at q3;subst q3;exact .inr (hsr _ _ he)
theorem E2 {t ty e:TypeId} {A:Option Nat} {n c c2:Nat} (ht:Bt P t=some e) (hz0:P.cellsOf e≠0) (hc:n≤c) (ho:A=none→n=0) :
 (Builtin.append_ #[t,t] ty #[.slice (Ga A) n c,.slice none 0 c2]).run P w=.ok (.slice (Ga A) n c) w:=by
 cases A with
 | none=>simp[Builtin.append_,run_underlying (BR ht),Fg hz0,Builtin.lenOf,Builtin.firstCells,hc]
 | some g=>simp[Builtin.append_,run_underlying (BR ht),Fg hz0,Builtin.lenOf,Builtin.firstCells,hc,storeCells]
theorem Rg {G:Nat→Prop}:∀ {ds:List D} {vs:List Value},(∀ d∈ds,A4 d=true)→vs.length=ds.length→(∀ (i:Nat) (d:D),ds[i]? = some d→∃ v,vs[i]? = some v∧Rd w G d v)→BW P w ds vs []
 | [],[],_,_,_=>.nil
 | [],_::_,_,h,_=>by simp at h
 | _::_,[],_,h,_=>by simp at h
 | d::ds,v::vs,hf,hl,hr=>by
   have ih:=Rg (ds:=ds) (vs:=vs) (fun d hd=>hf d (by simp[hd])) (by simpa using hl) (fun i d hd=>hr (i+1) d (by simpa using hd));obtain⟨u,hu,h0⟩:=hr 0 d rfl;simp at hu;subst hu;have:=hf d (by simp)
   cases h0 with
   | int k x=>exact .int k x ih
   | bool b=>exact .bool b ih
   | nil=>simp[A4] at this
   | sl=>simp[A4] at this
theorem MO (hst:w0.st=false) (hm:BM P w0 φ sl w Fs) {e:TypeId} {y:V} {v:Value} {es2:List (List D)} {o:Option Nat} (h:QE sl y=some (es2,o)) (hel:∀ c∈es2,c.length=P.cellsOf e) (hy:VR w (good w0.R φ sl w) φ sl y v) :
 (∃ c2,v=.slice none 0 c2∧es2=[])∨∃ (ad:Addr) (c2:Nat) (news:List Value),v=.slice (some ad) es2.length c2∧news.length=es2.length*P.cellsOf e∧(∀ j u,news[j]? = some u→w.cell? (ad.add j)=some u) ∧
   ∀ i x,es2[i]? = some x→Rds w (good w0.R φ sl w) x ((news.drop (i*P.cellsOf e)).take (P.cellsOf e)) []:=by
 have lay:∀ (b off:Nat) (u:Nat→Nat→Value) (c2:Nat),(∀ i x j d,es2[i]? = some x→x[j]? = some d→w.cell? ⟨b,off+i*P.cellsOf e+j,none⟩=some (u i j))→(∀ i x j d,es2[i]? = some x→x[j]? = some d→Rd w (good w0.R φ sl w) d (u i j)) →
  v=.slice (some ⟨b,off,none⟩) es2.length c2→∃ (ad:Addr) (c2:Nat) (news:List Value),v=.slice (some ad) es2.length c2∧news.length=es2.length*P.cellsOf e∧(∀ j u,news[j]? = some u→w.cell? (ad.add j)=some u) ∧
  ∀ i x,es2[i]? = some x→Rds w (good w0.R φ sl w) x ((news.drop (i*P.cellsOf e)).take (P.cellsOf e)) []:=by
  intro b off u c2 hc hr hv;by_cases hs:P.cellsOf e=0
  · refine⟨_,c2,[],hv,by simp[hs],by simp,fun i x hx=>⟨rfl,?_,fun j d hd=>?_⟩⟩
    · have:=hel x (zz6 hx);simp[hs] at this ⊢;simp[this]
    · have:=hel x (zz6 hx);rw[hs] at this;have:=zz7 this;subst this;simp at hd
  have hs0:0<P.cellsOf e:=Nat.pos_of_ne_zero hs
  have hcell:∀ k,k<es2.length*P.cellsOf e→w.cell? ⟨b,off+k,none⟩=some (u (k / P.cellsOf e) (k % P.cellsOf e)):=by
   intro k hk;have hi:k / P.cellsOf e<es2.length:=Nat.div_lt_of_lt_mul (by rw[Nat.mul_comm];exact hk);have hj:k % P.cellsOf e<P.cellsOf e:=Nat.mod_lt _ hs0;have hx:es2[k / P.cellsOf e]? = some es2[k / P.cellsOf e]:=zz0 hi;have hxl:=hel _ (AB7 hi);have hd:(es2[k / P.cellsOf e])[k % P.cellsOf e]? = some ((es2[k / P.cellsOf e])[k % P.cellsOf e]'(by omega)):=zz0 _;have:=hc _ _ _ _ hx hd;rw[←this,Nat.add_assoc,Nat.mul_comm,Nat.div_add_mod]
  refine⟨_,c2,(List.range (es2.length*P.cellsOf e)).map fun k=>u (k / P.cellsOf e) (k % P.cellsOf e),hv,by simp,fun j u' hu=>?_,fun i x hx=>?_⟩
  · rw[ACF,Option.map_eq_some_iff] at hu;obtain⟨k,hk,rfl⟩:=hu;obtain⟨hlt,rfl⟩:=zz1.1 hk;simp only[List.length_range] at hlt;rw[De,List.getElem_range];exact hcell j hlt
  · have hil:=(zz1.1 hx).1;have hseg:=CB hil (P.cellsOf e);have hxl:=hel x (zz6 hx);refine⟨rfl,by simp;omega,fun j d hd=>?_⟩;have hj:j<P.cellsOf e:=by rw[←hxl];exact (zz1.1 hd).1
    refine⟨u i j,?_,hr i x j d hx hd⟩;rw[ACi,if_pos hj,ACj,ACF,ACa (by omega)];have e1:(i*P.cellsOf e+j) / P.cellsOf e=i:=by rw[Nat.mul_comm,Nat.mul_add_div hs0,Nat.div_eq_of_lt hj];omega
    have e2:(i*P.cellsOf e+j) % P.cellsOf e=j:=by rw[Nat.mul_comm,Nat.mul_add_mod,Nat.mod_eq_of_lt hj]
    simp[e1,e2]
 unfold QE at h;split at h
 · cases h;cases hy;exact .inl ⟨_,rfl,rfl⟩
 · cases h
   cases hy with
   | d hy =>
     cases hy with
     | nil _ A c =>
       cases A with
       | none=>exact .inl ⟨_,rfl,rfl⟩
       | some ad=>exact .inr ⟨ad,c,[],rfl,by simp,by simp,fun i x hx=>by simp at hx⟩
     | sl _ _ b off c s u hn hcap hG hls hc hr =>
       right;by_cases h0:es2=[]
       · subst h0;exact⟨_,c,[],rfl,by simp,by simp,fun i x hx=>by simp at hx⟩
       · obtain⟨x,hx⟩:=List.exists_mem_of_ne_nil _ h0;have hss:s=P.cellsOf e:=by rw[←hls x hx,hel x hx]
         subst hss;exact lay b off u c hc hr rfl
 · split at h
   · rename_i s _ t ow es hs
     cases h
     cases hy with
     | gone h1=>rw[hs] at h1;cases h1
     | blk h1 _=>rw[hs] at h1;cases h1
     | @ref _ _ _ _ A c h1 h2 =>
       rw[hs] at h1
       cases h1
       obtain⟨hd,F,k1,k2,k3⟩:=hm.at_ hs;rw[h2] at k1
       cases k1
       have hnd:=CN hm.nd (zz6 k2)
       have fin:∀ {R:List D→List Value→List Nat→Prop},RowOf P w R t es2 A c F→(∀ e cs f,(∀ q∈f,q∈F∧A≠some q)→R e cs f→∃ f',Rds w (good w0.R φ sl w) e cs f') →
        (∃ c2,Value.slice (Ga A) es2.length c=.slice none 0 c2∧es2=[])∨∃ (ad:Addr) (c2:Nat) (news:List Value),Value.slice (Ga A) es2.length c=.slice (some ad) es2.length c2∧news.length=es2.length*P.cellsOf e∧(∀ j u,news[j]? = some u→w.cell? (ad.add j)=some u) ∧
        ∀ i x,es2[i]? = some x→Rds w (good w0.R φ sl w) x ((news.drop (i*P.cellsOf e)).take (P.cellsOf e)) []:=by
        intro R hr hR;obtain⟨q1,q2,⟨rfl,rfl,rfl⟩|⟨g,cur,Gs,rfl,q3,q4,q5,q6,q7,rfl⟩⟩:=hr
        · have h0:es2=[]:=zz7 (by omega);subst h0;exact .inl ⟨_,rfl,rfl⟩
        · by_cases h0:es2=[]
          · subst h0;exact .inr ⟨_,c,[],rfl,by simp,by simp,fun i x hx=>by simp at hx⟩
          · obtain⟨x,hx⟩:=List.exists_mem_of_ne_nil _ h0;have hss:P.cellsOf t=P.cellsOf e:=by rw[←q6 x hx,hel x hx]
            rw[hss] at q4 q7
            have hle:es2.length*P.cellsOf e≤cur.toList.length:=by
             have:=Nat.mul_le_mul_right (P.cellsOf e) q2;simpa [q4] using this
            refine .inr ⟨_,c,cur.toList.take (es2.length*P.cellsOf e),rfl,by rw[ACL];exact Nat.min_eq_left hle,fun j u hu=>?_,fun i x hx=>?_⟩
            · rw[ACi] at hu;split at hu
              · rw[De,cell_of_row w g _ cur t (0,0) q3,Nat.zero_add];rw[Array.getElem?_toList] at hu;exact hu
              · cases hu
            · have hil:=(zz1.1 hx).1;have hf:Gs[i]? = some (Gs[i]'(by omega)):=zz0 _;have hmul:=CB hil (P.cellsOf e);obtain⟨f',r1,r2,r3⟩:=hR _ _ _ (fun q hq=>⟨ACO _ (A5 hf hq),fun e=>by cases e;exact (List.nodup_cons.1 hnd).1 (A5 hf hq)⟩) (q7 i x _ hx hf);rw[←JQ rfl hmul];exact⟨rfl,r2,r3⟩
       cases ow with
       | false=>exact fin k3 fun e cs f _ hr=>⟨f,hr⟩
       | true =>
         refine fin k3 fun e cs f hq ho=>⟨[],ho.rds fun q hqf=>⟨ho.lt q hqf,?_,hm.rd hst (A5 k2 (hq q hqf).1)⟩⟩;rintro⟨s2,x2,c2,j1,j2,j3⟩;obtain⟨hd2,F2,j4,j5,j6⟩:=hm.at_ j1;rw[j3] at j4
         cases j4
         have hq2:=j6.head j2;by_cases hss:s2=s
         · subst hss;rw[h2] at j3
           cases j3
           exact (hq q hqf).2 rfl
         · exact Cf hm.nd k2 j5 (fun e=>hss e.symm) q (hq q hqf).1 hq2
   · cases h
 · cases h
theorem JH {s:Nat}:∀ {n:Nat} {ds:List D} {vs:List Value} {F:List Nat},BW P w ds vs F→ds.length=n*s→∃ Gs:List (List Nat),Gs.length=n∧Gs.flatten=F∧∀ i f,Gs[i]? = some f→BW P w ((ds.drop (i*s)).take s) ((vs.drop (i*s)).take s) f
 | 0,ds,vs,F,h,hl=>by
   have:ds=[]:=zz7 (by omega);subst this
   cases h
   exact⟨[],rfl,rfl,by simp⟩
 | n+1,ds,vs,F,h,hl=>by
   obtain⟨F1,F2,rfl,h1,h2⟩:=Mg (j:=s) h;obtain⟨Gs,k1,k2,k3⟩:=JH (n:=n) (s:=s) h2 (by rw[List.length_drop,hl,Nat.succ_mul];omega);refine⟨F1::Gs,by simp[k1],by simp[k2],fun i f hf=>?_⟩
   match i with
   | 0=>simp at hf;subst hf;simpa using h1
   | i+1 =>
     have:=k3 i f (by simpa using hf);rw[List.drop_drop,List.drop_drop] at this;have e:s+i*s=(i+1)*s:=by rw[Nat.succ_mul];omega
     rwa [e] at this
theorem Yg (hst:w0.st=false) (hm:BM P w0 φ sl w Fs) {e:TypeId} {x:V} {v:Value} {ow:Bool} {es:List (List D)} {ks:List Nat} (h:H0 sl e x=some (ow,es,ks)) (hx:VR w (good w0.R φ sl w) φ sl x v) :
 ∃ (A:Option Nat) (c:Nat) (F:List Nat),v=.slice (Ga A) es.length c∧AH Fs ks=F∧F.Nodup∧ks.Nodup∧(∀ k∈ks,∃ x,sl[k]? = some x∧x.live)∧(∀ g,A=some g→∃ s∈ks,∃ c,φ[s]? = some (some g,c)) ∧
   (ow=true→RowOf P w (BW P w) e es A c F)∧(∃ F2,RowOf P w (Rds w (good w0.R φ sl w)) e es A c F2∧(∀ q,F2.count q≤F.count q)):=by
 unfold H0 at h;split at h
 · cases h
   cases hx
   have hr:∀ R,RowOf P w R e [] none 0 []:=fun R=>⟨by omega,by simp,.inl ⟨rfl,rfl,rfl⟩⟩;exact⟨none,0,[],rfl,rfl,by simp,by simp,by simp,by simp,fun _=>hr _,[],hr _,by simp⟩
 · rename_i s;split at h
   · rename_i t ow' es' hs;split at h
     · rename_i hte;subst hte
       cases h
       cases hx with
       | gone h1=>rw[hs] at h1;cases h1
       | blk h1 _=>rw[hs] at h1;cases h1
       | @ref _ _ _ _ A c h1 h2 =>
         rw[hs] at h1
         cases h1
         obtain⟨hd,F,k1,k2,k3⟩:=hm.at_ hs;rw[h2] at k1
         cases k1
         have hnd:=CN hm.nd (zz6 k2);refine⟨A,c,F,rfl,by simp[AH,k2],hnd,by simp,by simpa using ⟨_,hs,trivial⟩,fun g hg=>by subst hg;exact⟨s,by simp,c,h2⟩,fun how=>by subst how;exact k3,?_⟩
         cases ow with
         | false=>exact⟨F,k3,fun q=>Nat.le_refl _⟩
         | true =>
           obtain⟨q1,q2,⟨rfl,rfl,rfl⟩|⟨g,cur,Gs,rfl,q3,q4,q5,q6,q7,rfl⟩⟩:=k3
           · exact⟨[],⟨q1,q2,.inl ⟨rfl,rfl,rfl⟩⟩,by simp⟩
           · have hrep:∀ k:Nat,(List.replicate k ([]:List Nat)).flatten=[]:=fun k=>by induction k with|zero=>rfl|succ k ih=>simp[List.replicate_succ,ih]
             refine⟨[g],⟨q1,q2,.inr ⟨g,cur,List.replicate es.length [],rfl,q3,q4,by simp,q6,fun i x f hx hf=>?_,by rw[hrep]⟩⟩,fun q=>?_⟩
             · have hil:=(zz1.1 hx).1;rw[List.getElem?_replicate,if_pos hil] at hf
               cases hf
               have hf:Gs[i]? = some (Gs[i]'(by omega)):=zz0 _;have ho:=q7 i x _ hx hf;refine ho.rds fun q hq=>⟨ho.lt q hq,?_,hm.rd hst (A5 k2 (ACO _ (A5 hf hq)))⟩;rintro⟨s2,x2,c2,j1,j2,j3⟩;obtain⟨hd2,F2,j4,j5,j6⟩:=hm.at_ j1;rw[j3] at j4
               cases j4
               have hq2:=j6.head j2;by_cases hss:s2=s
               · subst hss;rw[h2] at j3
                 cases j3
                 exact (List.nodup_cons.1 hnd).1 (A5 hf hq)
               · exact Cf hm.nd k2 j5 (fun e=>hss e.symm) q (ACO _ (A5 hf hq)) hq2
             · by_cases hq:g=q
               · subst hq;rw[List.count_singleton_self];exact List.count_pos_iff.2 (by simp)
               · rw[List.count_eq_zero.2 (by simpa using fun e=>hq e.symm)];exact Nat.zero_le _
     · cases h
   · cases h
 · cases h
theorem O7 (hst:w0.st=false) {t ty:TypeId} {x y:V} {v u:Value} {K:V→List Ag→Prop} (hm:BM P w0 φ sl w Fs) (hx:VR w (good w0.R φ sl w) φ sl x v) (hy:VR w (good w0.R φ sl w) φ sl y u) (h:Lz P sl t x y K) :
 ∃ r w' φ' sl' z,(Builtin.append_ #[t,t] ty #[v,u]).run P w=.ok r w'∧Turn P w0 φ sl w φ' sl' w'∧VR w' (good w0.R φ' sl' w') φ' sl' z r∧K z sl':=by
 obtain⟨e,ow,es,ks,ht,hb,hz,hz0,hby,hcase⟩:=h;obtain⟨z,hz⟩:=Option.isSome_iff_exists.1 hz;obtain⟨A,c,F,rfl,hF,hFn,hks,hkv,hA,hrow,F2,hrd,hF2⟩:=Yg hst hm hb hx;have hkl:∀ k∈ks,k<sl.length:=fun k hk=>by obtain⟨_,h,_⟩:=hkv k hk;exact (zz1.1 h).1
 have place:∀ {ks':List Nat} {A':Option Nat} {c':Nat} {w':World} {es':List (List D)} {ow':Bool},VR w' (good w0.R (φ++[(A',c')]) (kill ks' sl++[.arr e ow' es']) w') (φ++[(A',c')]) (kill ks' sl++[.arr e ow' es']) (.ref sl.length) (.slice (Ga A') es'.length c'):=by
  intro ks' A' c' w' es' ow';exact .ref (t:=e) (ow:=ow') (es:=es') (by rw[zz5 (by rw[BF];exact Nat.le_refl _),BF];simp) (by rw[zz5 (by rw[hm.flen];exact Nat.le_refl _),hm.flen];simp)
 have hlenA:A=none→es.length=0:=fun hA0=>by
  obtain⟨r1,r2,⟨_,r3,_⟩|⟨g,_,_,r3,_⟩⟩:=hrd
  · omega
  · rw[hA0] at r3;cases r3
 have hnorm:∀ {R:List D→List Value→List Nat→Prop} {F3:List Nat},RowOf P w R e es A c F3→es.length≤c:=fun h=>h.2.1;have hrep:∀ k:Nat,(List.replicate k ([]:List Nat)).flatten=[]:=fun k=>by induction k with|zero=>rfl|succ k ih=>simp[List.replicate_succ,ih]
 have hstay:∀ {w':World},CO A.toList w w'→∀ {ds:List D} {cs:List Value} {f:List Nat},(∀ q∈f,A≠some q)→BW P w ds cs f→BW P w' ds cs f:=by
  intro w' hO ds cs f hq ho;exact ho.stay fun q hqf=>hO.block q (ho.lt q hqf) (by simpa using fun e=>hq q hqf e)
 have readOnly:∀ {es2:List (List D)} {o:Option Nat},QE sl y=some (es2,o)→(∀ c∈es2,c.length=P.cellsOf e)→es.length+es2.length≤HQ →
  ∃ r w' φ' ,(Builtin.append_ #[t,t] ty #[.slice (Ga A) es.length c,u]).run P w=.ok r w'∧Turn P w0 φ sl w φ' (kill ks sl++[.arr e false (es++es2)]) w'∧VR w' (good w0.R φ' (kill ks sl++[.arr e false (es++es2)]) w') φ' (kill ks sl++[.arr e false (es++es2)]) (.ref sl.length) r:=by
  intro es2 o hs hel hlim;rcases MO hst hm hs hel hy with ⟨c2,rfl,rfl⟩|⟨ad,c2,news,rfl,hl,hnews,hr⟩
  · refine⟨_,w,φ++[(A,c)],E2 ht hz0 (hnorm hrd) hlenA,?_,by simpa using place⟩;refine C0 hm hks hkv hA (F':=F2) (CO.refl _ _) (fun g hg=>.inl hg) (fun φ' sl' he=>?_) (fun q=>by rw[hF];have:=hF2 q;omega);have:RowOf P w (Rds w (good w0.R φ' sl' w)) e es A c F2:=hrd.stay (fun _ _=>rfl) fun _ _ _ _ _ hr=>hr.mono he.hk;rw[List.append_nil];exact this
  · obtain⟨A',c',w',F',hrun,hO,hA',hrow',hc⟩:=JA (R':=fun w'=>Rds w (good w0.R φ sl w)) (Gs:=List.replicate es2.length []) ht hz hz0 hby hrd rfl (by simp) hl hnews (fun u hu=>by
     obtain⟨k,hk,rfl⟩:=List.mem_iff_getElem.1 hu;have hs0:0<P.cellsOf e:=Nat.pos_of_ne_zero hz0;have hi:k / P.cellsOf e<es2.length:=Nat.div_lt_of_lt_mul (by rw[Nat.mul_comm,←hl];exact hk);have hrr:=hr _ _ (zz0 hi);refine hrr.one _ (List.mem_iff_getElem?.2 ⟨k % P.cellsOf e,?_⟩);rw[ACi,if_pos (Nat.mod_lt _ hs0),ACj,Nat.mul_comm,Nat.div_add_mod];exact zz0 hk) hel (fun i x f hx hf=>by
     rw[List.getElem?_replicate] at hf;split at hf
     · cases hf;exact hr i x hx
     · cases hf) hlim (fun w' _ e cs f _ _ hr=>hr) (fun q=>by
       rw[hrep];have h1:=hF2 q;have h2:=List.nodup_iff_count.1 hFn q;simp
       omega)
    refine⟨_,w',φ++[(A',c')],hrun,C0 (y:=.arr e false (es++es2)) (F':=F') hm hks hkv hA hO hA' (fun φ' sl' he=>?_) (fun q=>?_),place⟩
    · exact hrow'.stay (fun _ _=>rfl) fun _ _ _ _ _ hr=>hr.mono he.hk
    · have h1:=hc q;have h2:=hF2 q;rw[hrep] at h1;rw[hF];simp at h1;omega
 rcases hcase with ⟨es2,o,hs,ho,hel,hlim,hfl,hK⟩|⟨s2,es2,rfl,hs2,hk2,how,hlim,hK⟩|⟨s2,n2,cells,ds,ks2,rfl,hs2,htk,hdis,hcl,how,hlim,hK⟩|⟨es2,o,hs,ho,hel,hlim,hK⟩
 · cases how:ow with
   | false =>
     subst how;obtain⟨r,w',φ',h1,h2,h3⟩:=readOnly hs hel hlim;exact⟨r,w',φ',_,_,h1,h2,h3,hK⟩
   | true =>
     subst how;have hro:=hrow rfl;rcases MO hst hm hs hel hy with ⟨c2,rfl,rfl⟩|⟨ad,c2,news,rfl,hl,hnews,hr⟩
     · refine⟨_,w,φ++[(A,c)],_,_,E2 ht hz0 (hnorm hrd) hlenA,?_,by simpa using place,hK⟩;refine C0 hm hks hkv hA (F':=F) (CO.refl _ _) (fun g hg=>.inl hg) (fun φ' sl' he=>?_) (fun q=>by rw[hF];omega);rw[List.append_nil];exact hro
     · obtain⟨A',c',w',F',hrun,hO,hA',hrow',hc⟩:=JA (R':=fun w'=>BW P w') (Gs:=List.replicate es2.length []) ht hz hz0 hby hro rfl (by simp) hl hnews (fun u hu=>by
        obtain⟨k,hk,rfl⟩:=List.mem_iff_getElem.1 hu;have hs0:0<P.cellsOf e:=Nat.pos_of_ne_zero hz0;have hi:k / P.cellsOf e<es2.length:=Nat.div_lt_of_lt_mul (by rw[Nat.mul_comm,←hl];exact hk);have hrr:=hr _ _ (zz0 hi);refine hrr.one _ (List.mem_iff_getElem?.2 ⟨k % P.cellsOf e,?_⟩);rw[ACi,if_pos (Nat.mod_lt _ hs0),ACj,Nat.mul_comm,Nat.div_add_mod];exact zz0 hk) hel (fun i x f hx hf=>by
        rw[List.getElem?_replicate] at hf;split at hf
        · cases hf
          have hrr:=hr i x hx;exact Rg (fun d hd=>hfl rfl x (zz6 hx) d hd) hrr.2.1 hrr.2.2
        · cases hf) hlim (fun w' hO e cs f hf hn ho=>hstay hO (fun q hq hAq=>hn q hq hAq (by
          rw[hrep];have h2:=List.nodup_iff_count.1 hFn q;simp
          omega)) ho) (fun q=>by
          rw[hrep];have h2:=List.nodup_iff_count.1 hFn q;simp
          omega)
       refine⟨_,w',φ++[(A',c')],_,_,hrun,C0 (y:=.arr e true (es++es2)) (F':=F') hm hks hkv hA hO hA' (fun φ' sl' he=>hrow') (fun q=>?_),place,hK⟩;have h1:=hc q;rw[hrep] at h1;rw[hF];simp at h1;omega
 · subst how;have hro:=hrow rfl
   cases hy with
   | gone h1=>rw[hs2] at h1;cases h1
   | blk h1 _=>rw[hs2] at h1;cases h1
   | @ref _ _ _ _ A2 c2 h1 h2 =>
     rw[hs2] at h1
     cases h1
     obtain⟨hd,F3,k1,k2,k3⟩:=hm.at_ hs2;rw[h2] at k1
     cases k1
     have hks':(s2::ks).Nodup:=List.nodup_cons.2 ⟨hk2,hks⟩
     have hkv':∀ k∈s2::ks,∃ x,sl[k]? = some x∧x.live:=fun k hk=>by
      rcases List.mem_cons.1 hk with rfl|hk
      · exact⟨_,hs2,trivial⟩
      · exact hkv k hk
     have hAk:∀ g,A=some g→∃ s∈s2::ks,∃ c,φ[s]? = some (some g,c):=fun g hg=>by obtain⟨s,h3,h4⟩:=hA g hg;exact⟨s,by simp[h3],h4⟩
     have hof:AH Fs (s2::ks)=F3++F:=by rw[←hF];simp[AH,k2]
     have hnd3:=CN hm.nd (zz6 k2)
     have hdisF:∀ q,F3.count q+F.count q≤1:=by
      intro q;have h4:=Dr q hks' (fun k hk=>by rw[hm.Flen];obtain⟨_,h5,_⟩:=hkv' k hk;exact (zz1.1 h5).1);have h5:=List.nodup_iff_count.1 hm.nd q;rw[hof,List.count_append] at h4;simp only[Dj] at h4;omega
     obtain⟨q1,q2,⟨rfl,rfl,rfl⟩|⟨g,cur,Gs,rfl,q3,q4,q5,q6,q7,rfl⟩⟩:=k3
     · have h0:es2=[]:=zz7 (by omega);subst h0;refine⟨_,w,φ++[(A,c)],_,_,E2 ht hz0 (hnorm hrd) hlenA,?_,by simpa using place (ks':=s2::ks),hK⟩;refine C0 hm hks' hkv' hAk (F':=F) (CO.refl _ _) (fun g hg=>.inl hg) (fun φ' sl' he=>?_) (fun q=>by rw[hof,List.count_append];omega);rw[List.append_nil];exact hro
     · have hle:es2.length*P.cellsOf e≤cur.toList.length:=by
        have:=Nat.mul_le_mul_right (P.cellsOf e) q2;simpa [q4] using this
       have hGc:∀ q,Gs.flatten.count q≤(g::Gs.flatten).count q:=fun q=>by rw[List.count_cons];omega
       have hown:∀ i x f,es2[i]? = some x→Gs[i]? = some f→BW P w x (((cur.toList.take (es2.length*P.cellsOf e)).drop (i*P.cellsOf e)).take (P.cellsOf e)) f:=fun i x f hx hf=>by
        rw[←JQ rfl (CB (zz1.1 hx).1 _)];exact q7 i x f hx hf
       obtain⟨A',c',w',F',hrun,hO,hA',hrow',hc⟩:=JA (R':=fun w'=>BW P w') (Gs:=Gs) (news:=cur.toList.take (es2.length*P.cellsOf e)) (c2:=c2) ht hz hz0 hby hro rfl q5 (by rw[ACL];exact Nat.min_eq_left hle) (ad:=⟨g,0,none⟩) (fun j u hu=>by
        rw[ACi] at hu;split at hu
        · rw[De,cell_of_row w g _ cur e (0,0) q3,Nat.zero_add];rw[Array.getElem?_toList] at hu;exact hu
        · cases hu) (fun u hu=>by
        obtain⟨k,hk,rfl⟩:=List.mem_iff_getElem.1 hu;have hs0:0<P.cellsOf e:=Nat.pos_of_ne_zero hz0;have hkl2:(cur.toList.take (es2.length*P.cellsOf e)).length=es2.length*P.cellsOf e:=by rw[ACL];exact Nat.min_eq_left hle
        have hi:k / P.cellsOf e<es2.length:=Nat.div_lt_of_lt_mul (by rw[Nat.mul_comm,←hkl2];exact hk);have hf:Gs[k / P.cellsOf e]? = some (Gs[k / P.cellsOf e]'(by omega)):=zz0 _;refine (hown _ _ _ (zz0 hi) hf).one _ (List.mem_iff_getElem?.2 ⟨k % P.cellsOf e,?_⟩);rw[ACi,if_pos (Nat.mod_lt _ hs0),ACj,show k / P.cellsOf e*P.cellsOf e+k % P.cellsOf e=k from by rw[Nat.mul_comm,Nat.div_add_mod]]
        exact zz0 hk) q6 hown hlim (fun w' hO e cs f hf hn ho=>hstay hO (fun q hq hAq=>hn q hq hAq (by
         have h4:=hdisF q;have h5:=hGc q
         omega)) ho) (fun q=>by
         have h4:=hdisF q;have h5:=hGc q
         omega)
       refine⟨_,w',φ++[(A',c')],_,_,hrun,C0 (y:=.arr e true (es++es2)) (F':=F') hm hks' hkv' hAk hO hA' (fun φ' sl' he=>hrow') (fun q=>?_),place (ks':=s2::ks),hK⟩;have h1:=hc q;have h5:=hGc q;rw[hof,List.count_append];omega
 · subst how;have hro:=hrow rfl
   cases hy with
   | litgone h1=>rw[hs2] at h1;cases h1
   | @lit _ _ t2 xs g c2 h1 h2 =>
     rw[hs2] at h1
     cases h1
     obtain⟨hd,F3,k1,k2,k3⟩:=hm.at_ hs2;rw[h2] at k1
     cases k1
     obtain⟨g',cur,e1,e2,e3,e4,e5⟩:=k3
     cases e1
     subst e2;have hcv:VRs w (good w0.R φ sl w) φ sl cells cur.toList:=⟨by simp[e4],fun i x v hx hv=>e5 i x v hx (by simpa using hv)⟩;obtain⟨t1,t2,t3⟩:=Fz hm htk hcv;have hdl:ds.length=n2*P.cellsOf e:=by rw[←t1.len,hcv.1,hcl]
     obtain⟨Gs,g1,g2,g3⟩:=JH (s:=P.cellsOf e) (n:=n2) t1 hdl
     have hk2n:s2∉ks++ks2:=by
      intro hk;rcases ACE.1 hk with hk|hk
      · obtain⟨ks0,hks0⟩:∃ q,H0 sl e x=some q:=⟨_,hb⟩;unfold H0 at hb;split at hb
        · cases hb;simp at hk
        · split at hb
          · rename_i hs3;split at hb
            · cases hb;simp at hk;subst hk;rw[hs2] at hs3;cases hs3
            · cases hb
          · cases hb
        · cases hb
      · obtain⟨_,_,h3⟩:=t3 s2 hk;rw[hs2] at h3;cases h3
     have hks':(s2::(ks++ks2)).Nodup:=List.nodup_cons.2 ⟨hk2n,List.nodup_append.2 ⟨hks,t2,fun a ha b hb e=>hdis b hb (e▸ha)⟩⟩
     have hkv':∀ k∈s2::(ks++ks2),∃ x,sl[k]? = some x∧x.live:=fun k hk=>by
      rcases List.mem_cons.1 hk with rfl|hk
      · exact⟨_,hs2,trivial⟩
      · rcases ACE.1 hk with hk|hk
        · exact hkv k hk
        · obtain⟨_,_,h3⟩:=t3 k hk;exact⟨_,h3,trivial⟩
     have hAk:∀ g,A=some g→∃ s∈s2::(ks++ks2),∃ c,φ[s]? = some (some g,c):=fun g hg=>by obtain⟨s,h3,h4⟩:=hA g hg;exact⟨s,by simp[h3],h4⟩
     have hof:∀ q,(AH Fs (s2::(ks++ks2))).count q=[g].count q+F.count q+(AH Fs ks2).count q:=by
      intro q;have e1:AH Fs (s2::(ks++ks2))=[g]++(AH Fs ks++AH Fs ks2):=by simp[AH,k2]
      rw[e1,List.count_append,List.count_append,hF,Nat.add_assoc]
     have hdisF:∀ q,[g].count q+F.count q+(AH Fs ks2).count q≤1:=by
      intro q;have h4:=Dr q hks' (fun k hk=>by rw[hm.Flen];obtain⟨_,h5,_⟩:=hkv' k hk;exact (zz1.1 h5).1);have h5:=List.nodup_iff_count.1 hm.nd q;rw[hof] at h4;simp only[Dj] at h4;omega
     have hel2:∀ x∈Ca (P.cellsOf e) n2 ds,x.length=P.cellsOf e:=by
      intro x hx;obtain⟨i,hi,rfl⟩:=List.mem_iff_getElem.1 hx;have hil:i<n2:=by rw[Cb] at hi;exact hi
      have hc:=Fj (s:=P.cellsOf e) (xs:=ds) hil;rw[zz0 hi] at hc;rw[ACW hc];have:=CB hil (P.cellsOf e);simp[hdl];omega
     obtain⟨A',c',w',F',hrun,hO,hA',hrow',hc⟩:=JA (R':=fun w'=>BW P w') (Gs:=Gs) (news:=cur.toList) (c2:=n2) (m:=n2) (es2:=Ca (P.cellsOf e) n2 ds) ht hz hz0 hby hro (Cb _ _) g1 (by rw[hcv.1,hcl]) (ad:=⟨g,0,none⟩) (fun j u hu=>by
      rw[De,cell_of_row w g _ cur e (0,0) e3,Nat.zero_add];rw[Array.getElem?_toList] at hu;exact hu) hcv.oneAll hel2 (fun i x f hx hf=>by
      have hil:i<n2:=by have:=(zz1.1 hx).1;rw[Cb] at this;exact this
      rw[Fj hil] at hx
      cases hx
      exact g3 i f hf) hlim (fun w' hO e cs f hf hn ho=>hstay hO (fun q hq hAq=>hn q hq hAq (by
       have h4:=hdisF q;rw[g2]
       omega)) ho) (fun q=>by
       have h4:=hdisF q;rw[g2]
       omega)
     refine⟨_,w',φ++[(A',c')],_,_,hrun,C0 (y:=.arr e true (es++Ca (P.cellsOf e) n2 ds)) (F':=F') hm hks' hkv' hAk hO hA' (fun φ' sl' he=>hrow') (fun q=>?_),place (ks':=s2::(ks++ks2)),hK⟩;have h1:=hc q;rw[g2] at h1;rw[hof];omega
 · obtain⟨r,w',φ',h1,h2,h3⟩:=readOnly hs hel hlim;exact⟨r,w',φ',_,_,h1,h2,h3,hK⟩
def GJ (es:List (Ky×Vl)) (k:Ky) (v:Vl):List (Ky×Vl):=if (E6 es k).isSome=true then es.map (fun p=>if p.1=k then (p.1,v) else p) else es++[(k,v)]
theorem Wb {es:List (Ky×Vl)} {k:Ky} {v:Vl} (h:E6 es k=none):GJ es k v=es++[(k,v)]:=by unfold GJ;rw[h];rfl
theorem NX {es:List (Ky×Vl)} {k:Ky} {v:Vl}:Cg (es++[(k,v)])=(Cg es).push ⟨DO k,DC v,es.length⟩:=by
 apply Array.ext';apply List.ext_getElem?;intro i;have hl:(Cg es).toList.length=es.length:=by simpa using W2 (es:=es)
 rw[DI,Array.toList_push];by_cases hi:i<es.length
 · rw[zz4 hi,zz4 (by omega),DI]
 · rw[zz5 (by omega),zz5 (by omega),hl];by_cases h0:i=es.length
   · subst h0;simp
   · rw[AB8 (by simp;omega),AB8 (by simp;omega)];rfl
theorem Ph {es:List (Ky×Vl)} {k:Ky} {v v0:Vl} {j:Nat} (hn:(es.map (·.1)).Nodup) (hj:es[j]? = some (k,v0)) (f:MapEntry→MapEntry) (hf:∀ e,f ⟨DO k,e,j⟩=⟨DO k,DC v,j⟩):Cg (es.map (fun p=>if p.1=k then (p.1,v) else p))=(Cg es).modify j f:=by
 apply Array.ext';apply List.ext_getElem?;intro i;rw[DI,Array.toList_modify,List.getElem?_modify,ACF,DI];by_cases hi:j=i
 · subst hi;rw[hj];simp[hf]
 · cases he:es[i]? with
   | none=>simp
   | some p =>
     have hne:p.1≠k:=fun e=>by
      have h1:(es.map (·.1))[i]? = some k:=by rw[ACF,he,←e];rfl
      have h2:(es.map (·.1))[j]? = some k:=by rw[ACF,hj];rfl
      obtain⟨a1,a2⟩:=zz1.1 h1;exact hi ((List.getElem?_inj a1 hn).1 (by rw[h1,h2])).symm
     simp[hi,hne]
theorem M7 {es:List (Ky×Vl)} {k:Ky} {v:Vl} (hn:(es.map (·.1)).Nodup):((GJ es k v).map (·.1)).Nodup∧∀ p∈GJ es k v,p.1=k∨∃ q∈es,q.1=p.1:=by
 unfold GJ;split
 · have e:(es.map (fun p=>if p.1=k then (p.1,v) else p)).map (·.1)=es.map (·.1):=by
    rw[ACm];refine List.map_congr_left fun p _=>?_;simp only[Function.comp];split<;>rfl
   refine⟨by rw[e];exact hn,fun p hp=>?_⟩;obtain⟨q,hq,rfl⟩:=ACP.1 hp;refine .inr ⟨q,hq,?_⟩;split<;>rfl
 · rename_i h;have h':E6 es k=none:=by cases hg:E6 es k<;>simp[hg] at h ⊢
   refine⟨?_,fun p hp=>?_⟩
   · rw[ACX,List.nodup_append];refine⟨hn,by simp,fun a ha b hb e=>?_⟩;obtain⟨p,hp,rfl⟩:=ACP.1 ha;simp at hb;exact Us h' p hp (e.trans hb)
   · rcases ACE.1 hp with hp|hp
     · exact .inr ⟨p,hp,rfl⟩
     · rw[zz9.1 hp];exact .inl rfl
theorem L7 (hm:BM P w0 φ sl w Fs) {s g c:Nat} {t:TypeId} {es es':List (Ky×Vl)} (hs:sl[s]? = some (.blk (.mp t es))) (hp:φ[s]? = some (some g,c)) (hF:Fs[s]? = some [g]) (hO:CO [g] w w') (hb:w'.heap[g]? = some (.map (Cg es') es'.length)) (hn:(es'.map (·.1)).Nodup) (hk:∀ e∈es',Fi P t e.1) :
 Turn P w0 φ sl w φ (sl.set s (.blk (.mp t es'))) w':=by
 have htop:top φ sl g:=⟨s,_,c,hs,trivial,hp⟩
 have hT:∀ b,top φ (sl.set s (.blk (.mp t es'))) b→w.heap.size≤b∨top φ sl b:=by
  rintro b ⟨s2,x2,c2,q1,q2,q3⟩;rcases Ex q1 with ⟨rfl,rfl,_⟩|⟨_,q1⟩
  · exact .inr ⟨_,_,c2,hs,trivial,q3⟩
  · exact .inr ⟨s2,x2,c2,q1,q2,q3⟩
 have hsl:∀ (i:Nat) (x:Ag),sl[i]? = some x→∃ x',(sl.set s (.blk (.mp t es')))[i]? = some x'∧Later x x':=by
  intro i x hx;by_cases hi:i=s
  · subst hi;rw[hs] at hx
    cases hx
    exact⟨_,ACf (zz1.1 hs).1,fun h=>rfl⟩
  · exact⟨x,by rw[ACT (fun e=>hi e.symm)];exact hx,Later.refl x⟩
 have hS:∀ b∈[g],top φ sl b∨w.heap.size≤b:=fun b hb=>by rw[zz9.1 hb];exact .inl htop
 refine hm.turn (Fs':=Fs) hO hS (by simp[hm.flen]) (by simp[hm.Flen]) hm.nd hm.ge hsl (fun _ _ h _=>h) hT (fun i x h F q1 q2 q3=>?_);rcases Ex q1 with ⟨rfl,rfl,_⟩|⟨hi,q1⟩
 · rw[hp] at q2;rw[hF] at q3
   cases q2
   cases q3
   exact .inr ⟨g,_,rfl,rfl,hb,rfl,hn,hk⟩
 · refine .inl ⟨q1,q2,q3,fun b hb hb2=>?_⟩;rw[zz9.1 hb2] at hb;exact Cf hm.nd q3 hF hi g hb (by simp)
theorem Ix {g:Nat} {o:Obj}:CO [g] w { w with heap:=w.heap.setIfInBounds g o }:=⟨rfl,rfl,rfl,by simp,fun k _ hk=>Array.getElem?_setIfInBounds_ne (fun e=>hk (by simp[e]))⟩
theorem PL {g:Nat} {o o':Obj} (h:w.heap[g]? = some o):({ w with heap:=w.heap.setIfInBounds g o' }:World).heap[g]? = some o':=Array.getElem?_setIfInBounds_self_of_lt (ACC.1 h).1
theorem RU {es:List (Ky×Vl)} {j:Nat} {k:Ky} {v:Vl} (h:es[j]? = some (k,v)):(Cg es)[j]? = some ⟨DO k,DC v,j⟩:=by rw[←Array.getElem?_toList,DI,h];rfl
theorem Rn {o c:Nat} (hc:c<Ay):(o*Ay+c) / Ay=o∧(o*Ay+c) % Ay=c:=by
 have h0:0<Ay:=by unfold Ay;omega
 rw[Nat.mul_comm,Nat.mul_add_div h0,Nat.mul_add_mod,Nat.div_eq_of_lt hc,Nat.mod_eq_of_lt hc];omega
theorem flat_rds {G:Nat→Prop} {x:List D} {vs:List Value} (h:Rds w G x vs []) (hf:∀ d∈x,A4 d=true):x.map OC=vs.map some:=by
 obtain⟨-,hl,hr⟩:=h;apply List.ext_getElem?;intro i;rw[ACF,ACF]
 cases hx:x[i]? with
 | none =>
   have:=List.getElem?_eq_none_iff.1 hx;rw[AB8 (by omega)];rfl
 | some d =>
   obtain⟨v,hv,hrd⟩:=hr i d hx;rw[hv];have:=hf d (zz6 hx)
   cases hrd with
   | int k x=>rfl
   | bool b=>rfl
   | nil=>simp[A4] at this
   | sl=>simp[A4] at this
theorem gU {G:Nat→Prop} {s n:Nat} {t:TypeId} {es:List (List D)} {v:Value} (hm:BM P w0 φ sl w Fs) (hs:sl[s]? = some (.blk (.que t n es))) (hv:VR w G φ sl (.ref s) v) :
 ∃ (g h:Nat) (cur:Array Value),v=.slice (some ⟨g,(h / Ay)*n,none⟩) es.length (h % Ay)∧φ[s]? = some (some g,h)∧Fs[s]? = some [g]∧w.heap[g]? = some (.cells cur t (0,0))∧n=P.cellsOf t∧h % Ay≤9223372036854775807∧es.length≤h % Ay∧(h / Ay+h % Ay)*n≤cur.size∧(∀ e∈es,e.length=n) ∧
   ∀ i e,es[i]? = some e→e.map OC=(((cur.toList.drop ((h / Ay+i)*n)).take n).map some):=by
 cases hv with
 | gone h1=>rw[hs] at h1;cases h1
 | ref h1=>rw[hs] at h1;cases h1
 | @blk _ k hh h1 h2 =>
   rw[hs] at h1
   cases h1
   obtain⟨hd,F,k1,k2,k3⟩:=hm.at_ hs;rw[h2] at k1
   cases k1
   obtain⟨g,o,q1,q2,q3,cur,rfl,q5,q6,q7,q8,q9,q10⟩:=k3;obtain⟨A,c⟩:=hh
   cases q1
   subst q2;exact⟨g,c,cur,rfl,h2,k2,q3,q5,q6,q7,q8,q9,q10⟩
theorem aD (hst:w0.st=false) {t ty:TypeId} {x y:V} {v u:Value} {K:V→List Ag→Prop} (hm:BM P w0 φ sl w Fs) (hx:VR w (good w0.R φ sl w) φ sl x v) (hy:VR w (good w0.R φ sl w) φ sl y u) (h:xD P sl t x y K) :
 ∃ r w' φ' sl' z,(Builtin.append_ #[t,t] ty #[v,u]).run P w=.ok r w'∧Turn P w0 φ sl w φ' sl' w'∧VR w' (good w0.R φ' sl' w') φ' sl' z r∧K z sl':=by
 obtain⟨e,s,n,es,s2,es2,ht,rfl,hs,rfl,hs2,hz,hz0,hby,hne,hfl,hlim,hK⟩:=h;obtain⟨z,hz⟩:=Option.isSome_iff_exists.1 hz;obtain⟨i,zv,k1,k2,k3,k4,k5,_⟩:=Ek hz;have hcz:=Du hz;have hsz:i.size=P.cellsOf e:=by rw[k4,hcz]
 have hbyi:i.bytes≤128:=by simpa [Program.bytesOf,k1] using hby
 obtain⟨g,h,cur,rfl,hp,hF,hg,-,hc63,hlc,hsize,hel,hat⟩:=gU hm hs hx;subst hne;have hs2s:s2≠s:=fun e=>by rw[e,hs] at hs2;cases hs2
 have hel2:∀ c∈es2,c.length=P.cellsOf e:=by
  obtain⟨hd,F,j1,j2,j3⟩:=hm.at_ hs2;obtain⟨q1,q2,⟨q3,q4,q5⟩|⟨g2,cur2,Gs2,q3,q4,q5,q6,q7,q8,q9⟩⟩:=j3
  · intro c hc;have:es2=[]:=zz7 (by omega);subst this;simp at hc
  · exact q7
 have hks:[s2,s].Nodup:=by simp[hs2s]
 have hkv:∀ k∈[s2,s],∃ x,sl[k]? = some x∧x.live:=fun k hk=>by
  rcases List.mem_cons.1 hk with rfl|hk
  · exact⟨_,hs2,trivial⟩
  · rw[zz9.1 hk];exact⟨_,hs,trivial⟩
 have hA:∀ g',some g=some g'→∃ k∈[s2,s],∃ c,φ[k]? = some (some g',c):=fun g' hg'=>by cases hg';exact⟨s,by simp,h,hp⟩
 have hcount:∀ q,[g].count q≤(AH Fs [s2,s]).count q:=fun q=>by
  have e1:AH Fs [s2,s]=(Fs[s2]?).getD []++[g]:=by simp[AH,hF]
  rw[e1,List.count_append];omega
 have place:∀ {A':Option Nat} {c':Nat} {w':World},VR w' (good w0.R (φ++[(A',c')]) (kill [s2,s] sl++[.blk (.que e (P.cellsOf e) (es++es2))]) w') (φ++[(A',c')]) (kill [s2,s] sl++[.blk (.que e (P.cellsOf e) (es++es2))]) (.ref sl.length) ((Bk.que e (P.cellsOf e) (es++es2)).val (A',c')):=by
  intro A' c' w';exact .blk (by rw[zz5 (by rw[BF];exact Nat.le_refl _),BF];simp) (by rw[zz5 (by rw[hm.flen];exact Nat.le_refl _),hm.flen];simp)
 have hcl:cur.toList.length=cur.size:=by simp
 have hlo:h / Ay*Ay+h % Ay=h:=by rw[Nat.mul_comm];exact Nat.div_add_mod _ _
 have hlt2:h % Ay<Ay:=Nat.mod_lt _ (by unfold Ay;omega)
 have hrow:∀ i x,es[i]? = some x→((h / Ay+i)*P.cellsOf e+P.cellsOf e)≤cur.size:=fun j x hx=>by
  have hj:=(zz1.1 hx).1;have h1:(h / Ay+j+1)*P.cellsOf e≤(h / Ay+h % Ay)*P.cellsOf e:=Nat.mul_le_mul_right _ (by omega);rw[Nat.add_mul,Nat.one_mul] at h1;omega
 rcases MO hst hm (y:=.ref s2) (es2:=es2) (o:=some s2) (by simp[QE,hs2]) hel2 hy with ⟨c2,rfl,rfl⟩|⟨ad,c2,news,rfl,hl,hnews,hr⟩
 ·
  have hrun:(Builtin.append_ #[t,t] ty #[.slice (some ⟨g,h / Ay*P.cellsOf e,none⟩) es.length (h % Ay),.slice none 0 c2]).run P w=.ok (.slice (some ⟨g,h / Ay*P.cellsOf e,none⟩) es.length (h % Ay)) w:=by
   simp[Builtin.append_,run_underlying (BR ht),Fg hz0,Builtin.lenOf,Builtin.firstCells,hlc,storeCells]
  refine⟨_,w,φ++[(some g,h)],_,_,hrun,C0 (y:=.blk (.que e (P.cellsOf e) (es++[]))) (F':=[g]) hm hks hkv hA (CO.refl _ _) (fun g' hg'=>.inl hg') (fun φ' sl' he=>?_) (fun q=>by have:=hcount q;omega),?_,hK⟩
  · rw[List.append_nil];exact⟨g,_,rfl,rfl,hg,cur,rfl,rfl,hc63,hlc,hsize,hel,hat⟩
  · have:=place (A':=some g) (c':=h) (w':=w);simpa [Bk.val] using this
 · have hone:∀ u∈news,u.oneCell'=true:=fun u hu=>by
    obtain⟨k,hk,rfl⟩:=List.mem_iff_getElem.1 hu;have hs0:0<P.cellsOf e:=Nat.pos_of_ne_zero hz0;have hi:k / P.cellsOf e<es2.length:=Nat.div_lt_of_lt_mul (by rw[Nat.mul_comm,←hl];exact hk);have hrr:=hr _ _ (zz0 hi);refine hrr.one _ (List.mem_iff_getElem?.2 ⟨k % P.cellsOf e,?_⟩);rw[ACi,if_pos (Nat.mod_lt _ hs0),ACj,Nat.mul_comm,Nat.div_add_mod];exact zz0 hk
   have hnew:∀ i x,es2[i]? = some x→x.map OC=((news.drop (i*P.cellsOf e)).take (P.cellsOf e)).map some:=fun i x hx=>flat_rds (hr i x hx) (hfl x (zz6 hx))
   have helA:∀ x∈es++es2,x.length=P.cellsOf e:=fun x hx=>by
    rcases ACE.1 hx with hx|hx
    · exact hel x hx
    · exact hel2 x hx
   by_cases hroom:es.length+es2.length≤h % Ay
   · have hfit:(h / Ay+es.length)*P.cellsOf e+news.length≤cur.size:=by
      rw[hl,←Nat.add_mul];exact Nat.le_trans (Nat.mul_le_mul_right _ (by omega)) hsize
     have hf:=run_firstCells_some (P:=P) w (P.cellsOf e) es2.length ad es2.length c2 news hl hnews;have hst2:=run_storeCells_at P g ((h / Ay+es.length)*P.cellsOf e) e news 0 cur w hg (by simpa using hfit) hone;simp only[Nat.add_zero] at hst2;have hadd:(⟨g,h / Ay*P.cellsOf e,none⟩:Addr).add (es.length*P.cellsOf e)=⟨g,(h / Ay+es.length)*P.cellsOf e,none⟩:=by rw[De,←Nat.add_mul]
     have hrun:(Builtin.append_ #[t,t] ty #[.slice (some ⟨g,h / Ay*P.cellsOf e,none⟩) es.length (h % Ay),.slice (some ad) es2.length c2]).run P w =
      .ok (.slice (some ⟨g,h / Ay*P.cellsOf e,none⟩) (es.length+es2.length) (h % Ay)) (w.setRow g (cur.toList.take ((h / Ay+es.length)*P.cellsOf e)++news++cur.toList.drop ((h / Ay+es.length)*P.cellsOf e+news.length)).toArray):=by
      simp[Builtin.append_,run_underlying (BR ht),Fg hz0,Builtin.lenOf,hroom,hf,hadd,hst2]
     obtain⟨nc,hnc⟩:∃ nc:List Value,nc=cur.toList.take ((h / Ay+es.length)*P.cellsOf e)++news++cur.toList.drop ((h / Ay+es.length)*P.cellsOf e+news.length):=⟨_,rfl⟩;rw[←hnc] at hrun;obtain⟨hO,hg'⟩:=H2 (cs:=nc.toArray) hg
     have hcs:nc.length=cur.size:=by
      rw[hnc];simp only[ACg,ACL,List.length_drop,Array.length_toList];omega
     refine⟨_,_,φ++[(some g,h)],_,_,hrun,C0 (y:=.blk (.que e (P.cellsOf e) (es++es2))) (A:=some g) (A':=some g) (F':=[g]) hm hks hkv hA hO (fun g' hg'=>.inl hg') (fun φ' sl' he=>?_) (fun q=>by have:=hcount q;omega),?_,hK⟩
     · refine⟨g,_,rfl,rfl,hg',_,rfl,rfl,hc63,by simpa using hroom,by simp only[List.size_toArray];rw[hcs];exact hsize,helA,fun j x hx=>?_⟩;simp only[List.toList_toArray];rw[hnc];by_cases hj:j<es.length
       · rw[zz4 hj] at hx;have h1:=hrow j x hx;rw[hat j x hx]
         have h2:(h / Ay+j)*P.cellsOf e+P.cellsOf e≤(h / Ay+es.length)*P.cellsOf e:=by
          have:(h / Ay+j+1)*P.cellsOf e≤(h / Ay+es.length)*P.cellsOf e:=Nat.mul_le_mul_right _ (by omega)
          rwa [Nat.add_mul _ 1,Nat.one_mul] at this
         congr 1
         apply List.ext_getElem?;intro q;rw[ACi,ACi];split
         · rename_i hq;rw[ACj,ACj,ACY,zz4 (by rw[ACL,hcl];omega),ACi,if_pos (by omega)]
         · rfl
       · rw[zz5 (by omega)] at hx;rw[hnew _ x hx];have hj2:=(zz1.1 hx).1;have h3:=CB hj2 (P.cellsOf e);have hle:(h / Ay+es.length)*P.cellsOf e≤cur.size:=by omega
         have e1:(h / Ay+j)*P.cellsOf e=(h / Ay+es.length)*P.cellsOf e+(j - es.length)*P.cellsOf e:=by rw[←Nat.add_mul];congr 1;omega
         congr 1
         apply List.ext_getElem?;intro q;rw[ACi,ACi];split
         · rename_i hq;rw[ACj,ACj,e1,ACY,zz5 (by rw[ACL,hcl];omega),ACL,hcl,Nat.min_eq_left hle,zz4 (by omega)]
           congr 1
           omega
         · rfl
     · have hval:(Bk.que e (P.cellsOf e) (es++es2)).val (some g,h)=.slice (some ⟨g,h / Ay*P.cellsOf e,none⟩) (es.length+es2.length) (h % Ay):=by simp[Bk.val]
       rw[←hval];exact place
   ·
    rw[←hsz] at hz0 hl
    have hc1:∀ j x,es[j]? = some x→(((cur.toList.drop (h / Ay*i.size)).take (es.length*i.size)).drop (j*i.size)).take i.size=(cur.toList.drop ((h / Ay+j)*i.size)).take i.size:=fun j x hx=>by
     have hj:=(zz1.1 hx).1;have h3:=CB hj i.size;apply List.ext_getElem?;intro q;rw[ACi,ACi];split
     · rw[ACj,ACi,if_pos (by omega),ACj,ACj,Nat.add_mul,Nat.add_assoc]
     · rfl
    have hlo2:((cur.toList.drop (h / Ay*i.size)).take (es.length*i.size)).length=es.length*i.size:=by
     have h1:(h / Ay+es.length)*i.size≤cur.size:=by rw[hsz];exact Nat.le_trans (Nat.mul_le_mul_right _ (by omega)) hsize
     rw[Nat.add_mul] at h1;simp only[ACL,List.length_drop,Array.length_toList];omega
    have holds:∀ j u,((cur.toList.drop (h / Ay*i.size)).take (es.length*i.size))[j]? = some u→w.cell? ((⟨g,h / Ay*i.size,none⟩:Addr).add j)=some u:=fun j u hu=>by
     rw[ACi] at hu;split at hu
     · rw[De,cell_of_row w g _ cur e (0,0) hg];rw[ACj,Array.getElem?_toList] at hu;exact hu
     · cases hu
    unfold HQ at hlim;have hbb:(es.length+es2.length)*i.bytes≤140737488355328:=Nat.le_trans (Nat.mul_le_mul hlim hbyi) (by omega);have hrun:=run_append_grow (P:=P) w t ty e i zv (BR ht) k1 k2 ⟨g,h / Ay*i.size,none⟩ es.length (h % Ay) _ hlo2 holds ad es2.length c2 news hl hnews (by omega) (by omega) (growslice_fits (by omega) hbb);have hge:=grownCap_ge w (es.length+es2.length) (h % Ay) e;have hcm:grownCap w (es.length+es2.length) (h % Ay) e≤maxLen:=grownCap_le_maxLen w _ _ e (by simp only[maxLen];omega);generalize grownCap w (es.length+es2.length) (h % Ay) e=N at hrun hge hcm;simp only[maxLen] at hcm;rw[hsz] at hrun
    have hN:N / Ay=0∧N % Ay=N:=by
     have:N<Ay:=by unfold Ay;omega
     exact⟨Nat.div_eq_of_lt this,Nat.mod_eq_of_lt this⟩
    generalize hO1:(cur.toList.drop (h / Ay*P.cellsOf e)).take (es.length*P.cellsOf e)=olds at hrun;rw[hsz] at hc1 hlo2 hl;rw[hO1] at hc1 hlo2;refine⟨_,_,φ++[(some w.heap.size,N)],_,_,hrun,C0 (y:=.blk (.que e (P.cellsOf e) (es++es2))) (A:=none) (A':=some w.heap.size) (F':=[w.heap.size]) hm hks hkv (fun g' hg'=>by cases hg') ⟨rfl,rfl,rfl,by simp,fun k hk _=>heap_alloc_old w.drew _ hk⟩ (fun g' hg'=>by cases hg';exact .inr rfl) (fun φ' sl' he=>?_) (fun q=>?_),?_,hK⟩
    · refine⟨w.heap.size,_,rfl,rfl,heap_alloc_new w.drew _,_,rfl,rfl,by rw[hN.2];omega,by rw[hN.2];simpa using hge,?_,helA,fun j x hx=>?_⟩
      · rw[hN.1,hN.2,Nat.zero_add];simp only[Array.size_append,List.size_toArray,size_zeroCells,hlo2,hl];have hzs:zv.cells.size=P.cellsOf e:=by rw[k5,hsz]
        rw[hzs,←Nat.add_mul,←Nat.add_mul];exact Nat.mul_le_mul_right _ (by omega)
      · rw[hN.1,Nat.zero_add];simp only[Array.toList_append,List.toList_toArray];by_cases hj:j<es.length
        · rw[zz4 hj] at hx;rw[hat j x hx,←hc1 j x hx];have h3:=CB hj (P.cellsOf e)
          congr 1
          apply List.ext_getElem?;intro q;rw[ACi,ACi];split
          · rw[ACj,ACj,ACY,zz4 (by omega)]
          · rfl
        · rw[zz5 (by omega)] at hx;rw[hnew _ x hx];have hj2:=(zz1.1 hx).1;have h3:=CB hj2 (P.cellsOf e);have e1:j*P.cellsOf e=es.length*P.cellsOf e+(j - es.length)*P.cellsOf e:=by rw[←Nat.add_mul];congr 1;omega
          congr 1
          apply List.ext_getElem?;intro q;rw[ACi,ACi];split
          · rw[ACj,ACj,e1,ACY,zz5 (by omega),hlo2,zz4 (by omega)]
            congr 1
            omega
          · rfl
    · by_cases hq:q=w.heap.size
      · subst hq;simp
      · rw[List.count_eq_zero.2 (by simpa using hq)];omega
    · have hval:(Bk.que e (P.cellsOf e) (es++es2)).val (some w.heap.size,N)=.slice (some ⟨w.heap.size,0,none⟩) (es.length+es2.length) N:=by simp[Bk.val,hN.1,hN.2]
      rw[←hval];exact place
theorem TJ {t:TypeId} {s:Nat} {es:List (Ky×Vl)} {x y z:V} {vx vy vz:Value} {k:Ky} {v:Vl} (hm:BM P w0 φ sl w Fs) (h:IK sl x=some (s,t,es)) (hx:VR w (good w0.R φ sl w) φ sl x vx) (hk:Oi y=some k) (hy:VR w (good w0.R φ sl w) φ sl y vy) (hv:Zf z=some v) (hz:VR w (good w0.R φ sl w) φ sl z vz) (hK:Fi P t k) :
 ∃ w',(Instr.mapUpdate t vx vy vz).run P w=.ok () w'∧Turn P w0 φ sl w φ (sl.set s (.blk (.mp t (GJ es k v)))) w':=by
 obtain⟨g,c,rfl,hp,hs,hF,hb,hn,hks⟩:=OA hm h hx;obtain rfl:=TN hk hy;obtain rfl:=kZ hv hz;have hK':=hK;obtain⟨kt,e,ht,-⟩:=hK';obtain⟨-,c2,c3,hf⟩:=Ps (w:=w) ht hn hks hK;obtain⟨n1,n2⟩:=M7 (k:=k) (v:=v) hn
 have hks':∀ p∈GJ es k v,Fi P t p.1:=fun p hp=>by
  rcases n2 p hp with h|⟨q,hq,h⟩
  · rw[h];exact hK
  · rw[←h];exact hks q hq
 rcases hf with ⟨f1,f2⟩|⟨j,v0,f1,f2,f3⟩
 · refine⟨{ w with heap:=w.heap.setIfInBounds g (.map ((Cg es).push ⟨DO k,DC v,es.length⟩) (es.length+1)) },by simp[Instr.mapUpdate,run_underlying ht,MapKept.run_getObj_map hb,c2,f1,MapKept.run_setObj_map _ hb,Result.andThen],L7 hm hs hp hF Ix ?_ n1 hks'⟩;rw[PL hb,Wb f2,NX,ACg];rfl
 · refine⟨{ w with heap:=w.heap.setIfInBounds g (.map ((Cg es).modify j fun e=>{ key:=DO k,val:=DC v,born:=e.born }) es.length) },by simp[Instr.mapUpdate,run_underlying ht,MapKept.run_getObj_map hb,c2,f1,RU f2,c3,MapKept.run_setObj_map _ hb,Result.andThen],L7 hm hs hp hF Ix ?_ n1 hks'⟩;have e:GJ es k v=es.map (fun p=>if p.1=k then (p.1,v) else p):=by unfold GJ;rw[f3];rfl
   rw[PL hb,e,Ph (v:=v) hn f2 (fun e=>{ key:=DO k,val:=DC v,born:=e.born }) (fun e=>rfl),ACH]
theorem LN {st:Bool} (hst:w0.st=st) {t ty:TypeId} {x y:V} {v u:Value} {K:V→List Ag→Prop} (hm:BM P w0 φ sl w Fs) (hx:VR w (good w0.R φ sl w) φ sl x v) (hy:VR w (good w0.R φ sl w) φ sl y u) (h:IV P st sl t x y K) :
 ∃ r w' φ' sl' z,(Builtin.append_ #[t,t] ty #[v,u]).run P w=.ok r w'∧Turn P w0 φ sl w φ' sl' w'∧VR w' (good w0.R φ' sl' w') φ' sl' z r∧K z sl':=by
 obtain⟨hs,h⟩:=h
 replace hst:=hst.trans hs
 rcases h with h|⟨d,ks,hf,h⟩
 · exact O7 hst hm hx hy h
 · obtain⟨t1,hd⟩:=QW hst hm hf hy;obtain⟨Fs2,hm2⟩:=t1.1;obtain⟨r,w',φ',sl',z,h1,h2,h3,h4⟩:=O7 (ty:=ty) hst hm2 (hx.mono t1.2.hk t1.2.hs t1.2.hp) hd h;exact⟨r,w',φ',sl',z,h1,t1.trans hm.flen h2,h3,h4⟩
end
def vV (P:Program) (sl:List Ag) (t:TypeId) (x y:V) (K:V→List Ag→Prop):Prop :=
 ∃ e es ks s2 es2,Bt P t=some e∧H0 sl e x=some (true,es,ks)∧y=.ref s2∧sl[s2]? = some (.arr e true es2)∧s2∉ks∧(A6 P e).isSome=true∧P.cellsOf e≠0∧P.bytesOf e≤128∧es.length+es2.length≤HQ ∧
   K (.ref sl.length) ((kill ks sl).set s2 (.arr e false es2)++[.arr e true (es++es2)])
section
variable {P:Program} {w0:DP} {w w':World} {φ φ':B6} {σ:St} {a:Act} {sl sl':List Ag} {Fs Fs':List (List Nat)}
theorem PR (hm:BM P w0 φ sl w Fs) {ks:List Nat} (hks:ks.Nodup) (hkv:∀ k∈ks,∃ x,sl[k]? = some x∧x.live) {s2 c2:Nat} {x2 z:Ag} {A2:Option Nat} {F3 G2:List Nat} (h2:sl[s2]? = some x2) (hl2:x2.live) (hp2:φ[s2]? = some (A2,c2)) (hF3:Fs[s2]? = some F3) (hk2:s2∉ks) (hz:z.live) (hlz:Later x2 z)
 {A A':Option Nat} (hA:∀ g,A=some g→∃ s∈ks,∃ c,φ[s]? = some (some g,c)) {c':Nat} {F':List Nat} {y:Ag}
 (hO:CO A.toList w w') (hA':∀ g,A'=some g→A=some g∨g=w.heap.size) (hsr:∀ φ' sl',jZ w0.R φ sl w φ' sl' w'→SR P w' (good w0.R φ' sl' w') φ' sl' y (A',c') F') (hsz:∀ φ' sl',jZ w0.R φ sl w φ' sl' w'→SR P w' (good w0.R φ' sl' w') φ' sl' z (A2,c2) G2)
 (hc:∀ q,F'.count q+G2.count q≤(AH Fs ks).count q+F3.count q+(if q=w.heap.size then 1 else 0)) :
 Turn P w0 φ sl w (φ++[(A',c')]) ((kill ks sl).set s2 z++[y]) w':=by
 have hkl:∀ k∈ks,k<sl.length:=fun k hk=>by obtain⟨_,h,_⟩:=hkv k hk;exact (zz1.1 h).1
 have hs2l:s2<sl.length:=(zz1.1 h2).1;have hkn:((kill ks sl).set s2 z).length=sl.length:=by rw[ACh,BF]
 have hat:∀ {k:Nat} {x:Ag},((kill ks sl).set s2 z++[y])[k]? = some x→(k=s2∧x=z)∨(k∈ks∧k≠s2∧x=.dead)∨(k∉ks∧k≠s2∧sl[k]? = some x)∨(k=sl.length∧x=y):=by
  intro k x hx;by_cases hk:k<sl.length
  · rw[zz4 (by omega)] at hx;rcases Ex hx with ⟨rfl,rfl,_⟩|⟨hne,hx⟩
    · exact .inl ⟨rfl,rfl⟩
    · rw[FD] at hx;by_cases hkk:k∈ks
      · rw[if_pos ⟨hkk,hk⟩] at hx;cases hx;exact .inr (.inl ⟨hkk,hne,rfl⟩)
      · rw[if_neg (fun h=>hkk h.1)] at hx;exact .inr (.inr (.inl ⟨hkk,hne,hx⟩))
  · rw[zz5 (by omega),hkn] at hx;have:=(zz1.1 hx).1;simp at this;have h0:k - sl.length=0:=by omega
    rw[h0] at hx
    cases hx
    exact .inr (.inr (.inr ⟨by omega,rfl⟩))
 have hpl:∀ {k:Nat},k<sl.length→(φ++[(A',c')])[k]? = φ[k]?:=fun hk=>zz4 (by rw[hm.flen];exact hk);have hph:(φ++[(A',c')])[sl.length]? = some (A',c'):=by rw[zz5 (by rw[hm.flen];exact Nat.le_refl _),hm.flen];simp
 have hAtop:∀ g,A=some g→top φ sl g:=fun g hg=>by
  obtain⟨s,hs,c,hp⟩:=hA g hg;obtain⟨x,hx,hl⟩:=hkv s hs;exact⟨s,x,c,hx,hl,hp⟩
 have hS:∀ b∈A.toList,top φ sl b∨w.heap.size≤b:=fun b hb=>.inl (hAtop b (by simpa using hb))
 have hT:∀ b,top (φ++[(A',c')]) ((kill ks sl).set s2 z++[y]) b→w.heap.size≤b∨top φ sl b:=by
  rintro b ⟨s3,x3,c3,q1,q2,q3⟩;rcases hat q1 with ⟨rfl,rfl⟩|⟨_,_,rfl⟩|⟨_,_,q1⟩|⟨rfl,rfl⟩
  · rw[hpl hs2l] at q3;exact .inr ⟨s3,x2,c3,h2,hl2,q3⟩
  · exact q2.elim
  · rw[hpl (zz1.1 q1).1] at q3;exact .inr ⟨s3,x3,c3,q1,q2,q3⟩
  · rw[hph] at q3
    cases q3
    rcases hA' b rfl with h|h
    · exact .inr (hAtop b h)
    · exact .inl (by omega)
 have hlt:∀ (k:Nat) (x:Ag),sl[k]? = some x→∃ x',((kill ks sl).set s2 z++[y])[k]? = some x'∧Later x x':=by
  intro k x hx;have hkl':=(zz1.1 hx).1;rw[zz4 (by omega)];by_cases hks2:k=s2
  · subst hks2;rw[h2] at hx
    cases hx
    exact⟨z,ACf (by rw[BF];exact hkl'),hlz⟩
  · rw[ACT (fun e=>hks2 e.symm),FD];by_cases hk:k∈ks
    · rw[if_pos ⟨hk,hkl'⟩];obtain⟨x3,h4,h5⟩:=hkv k hk;rw[hx] at h4
      cases h4
      refine⟨_,rfl,?_⟩
      cases x<;>first | exact h5.elim|trivial
    · rw[if_neg (fun h=>hk h.1)];exact⟨x,hx,Later.refl x⟩
 have hp:∀ (s:Nat) (h:Option Nat×Nat),φ[s]? = some h→sl[s]?≠some .unborn→(φ++[(A',c')])[s]? = some h:=fun s h hh _=>by rw[zz4 (zz1.1 hh).1];exact hh
 have he:jZ w0.R φ sl w (φ++[(A',c')]) ((kill ks sl).set s2 z++[y]) w':=⟨EG hO hS hT,hlt,hp⟩;have hkF:∀ k∈ks,k<Fs.length:=fun k hk=>by rw[hm.Flen];exact hkl k hk
 have hK2:(FJ ks Fs)[s2]? = some F3:=by rw[Gu,if_neg (fun h=>hk2 h.1)];exact hF3
 have hcnt:∀ q,Dj q ((FJ ks Fs).set s2 G2++[F'])≤Dj q Fs+(if q=w.heap.size then 1 else 0):=by
  intro q;have h1:=Dr q hks hkF;have h3:=HY q (F':=G2) hK2;have h2:=hc q;simp only[Dj,ACK,List.count_append,List.flatten_cons,List.flatten_nil,List.append_nil] at h1 h3 ⊢;omega
 have hFl:((FJ ks Fs).set s2 G2).length=sl.length:=by rw[ACh,DK,hm.Flen]
 refine hm.turn (Fs':=(FJ ks Fs).set s2 G2++[F']) hO hS (by simp[hm.flen,BF]) (by simp[DK,hm.Flen,BF]) ?_ (fun q hq=>?_) hlt hp hT (fun k x h F2 q1 q2 q3=>?_)
 · rw[List.nodup_iff_count];intro q;have h1:=hcnt q;have h2:=List.nodup_iff_count.1 hm.nd q;simp only[Dj] at h1;by_cases hq:q=w.heap.size
   · have h3:Fs.flatten.count q=0:=List.count_eq_zero.2 fun h=>by have:=hm.lt q h;omega
     rw[if_pos hq] at h1;omega
   · rw[if_neg hq] at h1;omega
 · have h1:=hcnt q;have h2:=List.count_pos_iff.2 hq;by_cases hq2:q=w.heap.size
   · have:=hm.only.size;exact .inr (by omega)
   · rw[if_neg hq2] at h1;exact hm.ge q (List.count_pos_iff.1 (by simp only[Dj] at h1;omega))
 · rcases hat q1 with ⟨rfl,rfl⟩|⟨hk,hne,rfl⟩|⟨hk,hne,q1⟩|⟨rfl,rfl⟩
   · rw[hpl hs2l,hp2] at q2
     cases q2
     rw[zz4 (by omega),ACf (by rw[DK,hm.Flen];exact hs2l)] at q3
     cases q3
     exact .inr (hsz _ _ he)
   · have hkl':=hkl k hk;rw[zz4 (by omega),ACT (fun e=>hne e.symm),Gu,if_pos ⟨hk,hkF k hk⟩] at q3
     cases q3
     exact .inr rfl
   · have hkl':=(zz1.1 q1).1;rw[hpl hkl'] at q2;rw[zz4 (by omega),ACT (fun e=>hne e.symm),Gu,if_neg (fun h=>hk h.1)] at q3;refine .inl ⟨q1,q2,q3,fun b hb hb2=>?_⟩;have hbA:A=some b:=by simpa using hb2
     obtain⟨s,hs,c,hps⟩:=hA b hbA;obtain⟨x3,hx3,hl3⟩:=hkv s hs;obtain⟨hd,F4,k4,k5,k6⟩:=hm.at_ hx3;rw[hps] at k4
     cases k4
     exact Cf hm.nd q3 k5 (fun e=>hk (e▸hs)) b hb (k6.head hl3)
   · rw[hph] at q2
     cases q2
     rw[zz5 (by omega),hFl] at q3;simp at q3;subst q3;exact .inr (hsr _ _ he)
theorem Z1 (hst:w0.st=false) (hm:BM P w0 φ sl w Fs) {s:Nat} {e:TypeId} {es:List (List D)} {g c:Nat} {cur:Array Value} {Gs:List (List Nat)} (hs:sl[s]? = some (.arr e true es)) (h2:φ[s]? = some (some g,c)) (k2:Fs[s]? = some (g::Gs.flatten))
 (q1:c≤9223372036854775807) (q2:es.length≤c) (q3:w.heap[g]? = some (.cells cur e (0,0))) (q4:cur.size=c*P.cellsOf e) (q5:Gs.length=es.length) (q6:∀ x∈es,x.length=P.cellsOf e)
 (q7:∀ i x f,es[i]? = some x→Gs[i]? = some f→BW P w x ((cur.toList.drop (i*P.cellsOf e)).take (P.cellsOf e)) f):RowOf P w (Rds w (good w0.R φ sl w)) e es (some g) c [g]:=by
 have hrep:∀ k:Nat,(List.replicate k ([]:List Nat)).flatten=[]:=fun k=>by induction k with|zero=>rfl|succ k ih=>simp[List.replicate_succ,ih]
 have hnd:=CN hm.nd (zz6 k2);refine⟨q1,q2,.inr ⟨g,cur,List.replicate es.length [],rfl,q3,q4,by simp,q6,fun i x f hx hf=>?_,by rw[hrep]⟩⟩;have hil:=(zz1.1 hx).1;rw[List.getElem?_replicate,if_pos hil] at hf
 cases hf
 have hf:Gs[i]? = some (Gs[i]'(by omega)):=zz0 _;have ho:=q7 i x _ hx hf;refine ho.rds fun q hq=>⟨ho.lt q hq,?_,hm.rd hst (A5 k2 (ACO _ (A5 hf hq)))⟩;rintro⟨s2,x2,c2,j1,j2,j3⟩;obtain⟨hd2,F2,j4,j5,j6⟩:=hm.at_ j1;rw[j3] at j4
 cases j4
 have hq2:=j6.head j2;by_cases hss:s2=s
 · subst hss;rw[h2] at j3
   cases j3
   exact (List.nodup_cons.1 hnd).1 (A5 hf hq)
 · exact Cf hm.nd k2 j5 (fun e=>hss e.symm) q (ACO _ (A5 hf hq)) hq2
theorem ZY (hst:w0.st=false) {t ty:TypeId} {x y:V} {v u:Value} {K:V→List Ag→Prop} (hm:BM P w0 φ sl w Fs) (hx:VR w (good w0.R φ sl w) φ sl x v) (hy:VR w (good w0.R φ sl w) φ sl y u) (h:vV P sl t x y K) :
 ∃ r w' φ' sl' z,(Builtin.append_ #[t,t] ty #[v,u]).run P w=.ok r w'∧Turn P w0 φ sl w φ' sl' w'∧VR w' (good w0.R φ' sl' w') φ' sl' z r∧K z sl':=by
 obtain⟨e,es,ks,s2,es2,ht,hb,rfl,hs2,hk2,hz,hz0,hby,hlim,hK⟩:=h;obtain⟨z,hz⟩:=Option.isSome_iff_exists.1 hz;obtain⟨A,c,F,rfl,hF,hFn,hks,hkv,hA,hrow,F2,hrd,hF2⟩:=Yg hst hm hb hx;have hro:=hrow rfl;have hs2l:s2<sl.length:=(zz1.1 hs2).1
 have place:∀ {A':Option Nat} {c':Nat} {w':World} {es':List (List D)},VR w' (good w0.R (φ++[(A',c')]) ((kill ks sl).set s2 (.arr e false es2)++[.arr e true es']) w') (φ++[(A',c')]) ((kill ks sl).set s2 (.arr e false es2)++[.arr e true es']) (.ref sl.length) (.slice (Ga A') es'.length c'):=by
  intro A' c' w' es';exact .ref (t:=e) (ow:=true) (es:=es') (by rw[zz5 (by rw[ACh,BF];exact Nat.le_refl _),ACh,BF];simp) (by rw[zz5 (by rw[hm.flen];exact Nat.le_refl _),hm.flen];simp)
 have hlenA:A=none→es.length=0:=fun hA0=>by
  obtain⟨r1,r2,⟨_,r3,_⟩|⟨g,_,_,r3,_⟩⟩:=hrd
  · omega
  · rw[hA0] at r3;cases r3
 have hstay:∀ {w':World},CO A.toList w w'→∀ {ds:List D} {cs:List Value} {f:List Nat},(∀ q∈f,A≠some q)→BW P w ds cs f→BW P w' ds cs f:=by
  intro w' hO ds cs f hq ho;exact ho.stay fun q hqf=>hO.block q (ho.lt q hqf) (by simpa using fun e=>hq q hqf e)
 cases hy with
 | gone h1=>rw[hs2] at h1;cases h1
 | blk h1 _=>rw[hs2] at h1;cases h1
 | @ref _ _ _ _ A2 c2 h1 h2 =>
   rw[hs2] at h1
   cases h1
   obtain⟨hd,F3,k1,k2,k3⟩:=hm.at_ hs2;rw[h2] at k1
   cases k1
   have hks':(s2::ks).Nodup:=List.nodup_cons.2 ⟨hk2,hks⟩
   have hkv':∀ k∈s2::ks,∃ x,sl[k]? = some x∧x.live:=fun k hk=>by
    rcases List.mem_cons.1 hk with rfl|hk
    · exact⟨_,hs2,trivial⟩
    · exact hkv k hk
   have hof:AH Fs (s2::ks)=F3++F:=by rw[←hF];simp[AH,k2]
   have hdisF:∀ q,F3.count q+F.count q≤1:=by
    intro q;have h4:=Dr q hks' (fun k hk=>by rw[hm.Flen];obtain⟨_,h5,_⟩:=hkv' k hk;exact (zz1.1 h5).1);have h5:=List.nodup_iff_count.1 hm.nd q;rw[hof,List.count_append] at h4;simp only[Dj] at h4;omega
   have hlz:∀ l:List (List D),Later (.arr e true l) (.arr e false l):=fun _=>rfl;obtain⟨q1,q2,⟨rfl,rfl,rfl⟩|⟨g,cur,Gs,rfl,q3,q4,q5,q6,q7,rfl⟩⟩:=k3
   · have h0:es2=[]:=zz7 (by omega);subst h0;refine⟨_,w,φ++[(A,c)],_,_,E2 ht hz0 hro.2.1 hlenA,?_,by simpa using place,hK⟩;refine PR hm hks hkv (z:=.arr e false []) (F':=F) (G2:=[]) hs2 trivial h2 k2 hk2 trivial (hlz _) hA (CO.refl _ _) (fun g hg=>.inl hg) (fun φ' sl' he=>?_) (fun φ' sl' he=>?_) (fun q=>by rw[hF];simp)
     · rw[List.append_nil];exact hro
     · exact⟨by omega,by simp,.inl ⟨rfl,rfl,rfl⟩⟩
   · have hrr:=Z1 hst hm hs2 h2 k2 q1 q2 q3 q4 q5 q6 q7
     have hle:es2.length*P.cellsOf e≤cur.toList.length:=by
      have:=Nat.mul_le_mul_right (P.cellsOf e) q2;simpa [q4] using this
     have hGc:∀ q,Gs.flatten.count q+[g].count q=(g::Gs.flatten).count q:=fun q=>by
      rw[List.count_cons,List.count_cons];simp
     have hown:∀ i x f,es2[i]? = some x→Gs[i]? = some f→BW P w x (((cur.toList.take (es2.length*P.cellsOf e)).drop (i*P.cellsOf e)).take (P.cellsOf e)) f:=fun i x f hx hf=>by
      rw[←JQ rfl (CB (zz1.1 hx).1 _)];exact q7 i x f hx hf
     obtain⟨A',c',w',F',hrun,hO,hA',hrow',hc⟩:=JA (ty:=ty) (R':=fun w'=>BW P w') (Gs:=Gs) (news:=cur.toList.take (es2.length*P.cellsOf e)) (c2:=c2) ht hz hz0 hby hro rfl q5 (by rw[ACL];exact Nat.min_eq_left hle) (ad:=⟨g,0,none⟩) (fun j u hu=>by
      rw[ACi] at hu;split at hu
      · rw[De,cell_of_row w g _ cur e (0,0) q3,Nat.zero_add];rw[Array.getElem?_toList] at hu;exact hu
      · cases hu) (fun u hu=>by
      obtain⟨k,hk,rfl⟩:=List.mem_iff_getElem.1 hu;have hs0:0<P.cellsOf e:=Nat.pos_of_ne_zero hz0;have hkl2:(cur.toList.take (es2.length*P.cellsOf e)).length=es2.length*P.cellsOf e:=by rw[ACL];exact Nat.min_eq_left hle
      have hi:k / P.cellsOf e<es2.length:=Nat.div_lt_of_lt_mul (by rw[Nat.mul_comm,←hkl2];exact hk);have hf:Gs[k / P.cellsOf e]? = some (Gs[k / P.cellsOf e]'(by omega)):=zz0 _;refine (hown _ _ _ (zz0 hi) hf).one _ (List.mem_iff_getElem?.2 ⟨k % P.cellsOf e,?_⟩);rw[ACi,if_pos (Nat.mod_lt _ hs0),ACj,show k / P.cellsOf e*P.cellsOf e+k % P.cellsOf e=k from by rw[Nat.mul_comm,Nat.div_add_mod]]
      exact zz0 hk) q6 hown hlim (fun w' hO e cs f hf hn ho=>hstay hO (fun q hq hAq=>hn q hq hAq (by
       have h4:=hdisF q;have h5:=hGc q
       omega)) ho) (fun q=>by
       have h4:=hdisF q;have h5:=hGc q
       omega)
     have hAg:A≠some g:=fun hAg=>by
      have h4:=hdisF g;have h5:0<(g::Gs.flatten).count g:=List.count_pos_iff.2 (by simp)
      have h6:0<F.count g:=by
       subst hAg;obtain⟨-,-,⟨h7,-⟩|⟨g',cur',Gs',h7,-,-,-,-,-,rfl⟩⟩:=hro
       · cases h7
       · cases h7
         exact List.count_pos_iff.2 (by simp)
      omega
     refine⟨_,w',φ++[(A',c')],_,_,hrun,PR (y:=.arr e true (es++es2)) (z:=.arr e false es2) (F':=F') (G2:=[g]) hm hks hkv hs2 trivial h2 k2 hk2 trivial (hlz _) hA hO hA' (fun φ' sl' he=>hrow') (fun φ' sl' he=>?_) (fun q=>?_),place,hK⟩
     · refine hrr.stay (fun g' hg'=>?_) fun _ _ _ _ _ hr=>hr.mono he.hk
       cases hg'
       exact hO.block _ (ACC.1 q3).1 (by simpa using hAg)
     · have h1:=hc q;have h5:=hGc q;rw[hF];omega
end
def Tf (e:TypeId) (s len:Nat) (sl:List Ag) (cells:List V):Option (Ag×List Nat) :=
 match BG cells with
 | some _=>none
 | none=>match CT sl cells with
   | some (ds,ks)=>some (.arr e true (Ca s len ds),ks)
   | none=>none
def JP (P:Program) (b:Bool) (sl:List Ag) (t:TypeId) (len:Nat) (ps:List (Nat×V)):Option (Ag×List Nat) :=
 if b=true then
  match Bt P t with
  | none=>none
  | some e=>match A6 P e with
    | none=>none
    | some z=>if len*z.length≤16777216∧len≤9223372036854775807 then
       match EB (fun i=>some (i*z.length,z.length)) (List.replicate len z).flatten ps with
       | none=>none
       | some cells=>Tf e z.length len sl cells
      else none
 else none
theorem WE {P:Program} {sl:List Ag} {t:TypeId} {len:Nat} {ps:List (Nat×V)}:JP P false sl t len ps=none:=by simp[JP]
theorem Vj {P:Program} {b:Bool} {sl:List Ag} {t:TypeId} {len:Nat} {ps:List (Nat×V)} {y:Ag} {ks:List Nat} (h:JP P b sl t len ps=some (y,ks)):∃ e z cells ds,Bt P t=some e∧A6 P e=some z∧len*z.length≤16777216∧len≤9223372036854775807 ∧
 EB (fun i=>some (i*z.length,z.length)) (List.replicate len z).flatten ps=some cells∧CT sl cells=some (ds,ks)∧y=.arr e true (Ca z.length len ds):=by
 unfold JP at h;split at h
 · split at h
   · cases h
   rename_i e he;split at h
   · cases h
   rename_i z hz;split at h
   · rename_i hle;split at h
     · cases h
     rename_i cells hc;unfold Tf at h;split at h
     · cases h
     · split at h
       · rename_i ds ks' ht
         cases h
         exact⟨e,z,cells,ds,he,hz,hle.1,hle.2,hc,ht,rfl⟩
       · cases h
   · cases h
 · cases h
section
variable {P:Program} {w0:DP} {w w':World} {φ φ':B6} {σ:St} {a:Act} {sl sl':List Ag} {Fs Fs':List (List Nat)}
theorem Uk (hm:BM P w0 φ sl w Fs) {b:Bool} {t:TypeId} {len:Nat} {ps:Array (Nat×Operand)} {f:Operand→V} {g:Operand→Value} {y:Ag} {ks:List Nat}
 (h:JP P b sl t len (ps.toList.map fun p=>(p.1,f p.2))=some (y,ks)) (hv:∀ x,VR w (good w0.R φ sl w) φ sl (f x) (g x)) :
 ∃ u φ' w',(Instr.buildSlice t len (ps.map fun (i,x)=>(i,g x))).run P w=.ok u w'∧Turn P w0 φ sl w φ' (kill ks sl++[y]) w'∧VR w' (good w0.R φ' (kill ks sl++[y]) w') φ' (kill ks sl++[y]) (.ref sl.length) u:=by
 obtain⟨e,z,cells,ds,h2,h3,h4,hl,h5,h6,rfl⟩:=Vj h;obtain⟨us,h7,h8⟩:=JF (w:=w) (φ:=φ) (sl:=sl) (G:=good w0.R φ sl w) (g:=g) h2 h3 h4 h5 hv;have hcl:cells.length=len*P.cellsOf e:=by rw[Nc h5,BZ,Du h3]
 obtain⟨t1,t2,t3⟩:=Fz hm h6 h8;have hdl:ds.length=len*P.cellsOf e:=by rw[←t1.len,h8.1,hcl]
 obtain⟨Gs,g1,g2,g3⟩:=JH (s:=P.cellsOf e) (n:=len) t1 hdl;rw[←Du h3];have hO:CO (none:Option Nat).toList w (w.alloc (.cells us.toArray e)):=CO.of_below (T2 w _)
 have hrow:RowOf P (w.alloc (.cells us.toArray e)) (BW P (w.alloc (.cells us.toArray e))) e (Ca (P.cellsOf e) len ds) (some w.heap.size) len (w.heap.size::Gs.flatten):=by
  refine⟨hl,by rw[Cb];exact Nat.le_refl _,.inr ⟨w.heap.size,us.toArray,Gs,rfl,heap_alloc_new w _,by simp[h8.1,hcl],by simp[Cb,g1],fun e' he'=>?_,fun i e' f h1 h2=>?_,rfl⟩⟩
  · obtain⟨i,hi,rfl⟩:=List.mem_iff_getElem.1 he';have hil:i<len:=by rw[Cb] at hi;exact hi
    have hc:=Fj (s:=P.cellsOf e) (xs:=ds) hil;rw[zz0 hi] at hc;rw[ACW hc];have:=CB hil (P.cellsOf e);simp[hdl];omega
  · have hil:i<len:=by have:=(zz1.1 h1).1;rw[Cb] at this;exact this
    rw[Fj hil] at h1
    cases h1
    have ho:=g3 i f h2;have:=ho.stay (w':=w.alloc (.cells us.toArray e)) fun q hq=>(T2 w (.cells us.toArray e)).block q (ho.lt q hq);simpa using this
 refine⟨_,φ++[(some w.heap.size,len)],_,h7,C0 (y:=.arr e true (Ca (P.cellsOf e) len ds)) (A:=none) (F':=w.heap.size::Gs.flatten) hm t2 (fun k hk=>by obtain⟨_,_,h⟩:=t3 k hk;exact⟨_,h,trivial⟩) (fun g hg=>by cases hg) hO (fun g hg=>by cases hg;exact .inr rfl) (fun φ' sl' he=>hrow) (fun q=>?_),?_⟩
 · rw[g2,List.count_cons];by_cases hq:q=w.heap.size
   · subst hq;simp
   · rw[if_neg hq];simp[Ne.symm hq]
 · have hcn:(Ca (P.cellsOf e) len ds).length=len:=Cb _ _
   have:=VR.ref (w:=w.alloc (.cells us.toArray e)) (G:=good w0.R (φ++[(some w.heap.size,len)]) (kill ks sl++[.arr e true (Ca (P.cellsOf e) len ds)]) (w.alloc (.cells us.toArray e))) (φ:=φ++[(some w.heap.size,len)]) (sl:=kill ks sl++[.arr e true (Ca (P.cellsOf e) len ds)]) (s:=sl.length) (t:=e) (ow:=true) (es:=Ca (P.cellsOf e) len ds) (A:=some w.heap.size) (c:=len)
    (by rw[zz5 (by rw[BF];exact Nat.le_refl _),BF];simp) (by rw[zz5 (by rw[hm.flen];exact Nat.le_refl _),hm.flen];simp)
   rw[hcn] at this;exact this
end
end Go.Proofs.Ytnjedabjbeipeaa
