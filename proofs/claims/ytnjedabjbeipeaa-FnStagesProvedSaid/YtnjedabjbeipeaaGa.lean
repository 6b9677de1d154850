/-
  Selections of cuts, as plain data: unions of ascending lists, an order of lists, candidates in order without those that contain lesser ones. Plain lemmas, about no function of the program.
  Conditions: those typed in each theorem.
-/
import Derived.Test.YtnjedabjbeipeaaNh
namespace Go.Proofs.Ytnjedabjbeipeaa
set_option linter.unusedSimpArgs false
set_option linter.unusedVariables false
set_option maxRecDepth 100000
set_option maxHeartbeats 10000000
def BE:List Int→List Int→List Int
 | [],b=>b
 | a,[]=>a
 | x::a,y::b=>if x<y then x::BE a (y::b) else if y<x then y::BE (x::a) b else x::BE a b
termination_by a b=>a.length+b.length
theorem Dd {a:List Int}:BE a []=a:=by cases a<;>simp[BE]
theorem Gj {b:List Int}:BE [] b=b:=by simp[BE]
theorem DR {x y:Int} {a b:List Int}:BE (x::a) (y::b)=if x<y then x::BE a (y::b) else if y<x then y::BE (x::a) b else x::BE a b:=by rw[BE]
theorem Jb:∀ (n:Nat) (a b:List Int),a.length+b.length≤n→(BE a b).length≤a.length+b.length∧a.length≤(BE a b).length∧b.length≤(BE a b).length
 | n,[],b,_=>by rw[Gj];simp
 | n,x::a,[],_=>by rw[Dd];simp
 | 0,x::a,y::b,h=>by simp at h
 | n+1,x::a,y::b,h=>by
   rw[DR];simp only[List.length_cons] at h ⊢;split
   · have:=Jb n a (y::b) (by simp only[List.length_cons];omega);simp only[List.length_cons] at this ⊢;omega
   · split
     · have:=Jb n (x::a) b (by simp only[List.length_cons];omega);simp only[List.length_cons] at this ⊢;omega
     · have:=Jb n a b (by omega);simp only[List.length_cons];omega
theorem El:∀ (n:Nat) (a b:List Int),a.length+b.length≤n→∀ z,(z∈BE a b↔z∈a∨z∈b)
 | n,[],b,_,z=>by rw[Gj];simp
 | n,x::a,[],_,z=>by rw[Dd];simp
 | 0,x::a,y::b,h,z=>by simp at h
 | n+1,x::a,y::b,h,z=>by
   rw[DR];simp only[List.length_cons] at h;split
   · simp only[List.mem_cons,El n a (y::b) (by simp only[List.length_cons];omega) z];constructor
     · rintro (h|h|h|h)<;>simp[h]
     · rintro ((h|h)|h|h)<;>simp[h]
   · split
     · simp only[List.mem_cons,El n (x::a) b (by simp only[List.length_cons];omega) z];constructor
       · rintro (h|(h|h)|h)<;>simp[h]
       · rintro ((h|h)|h|h)<;>simp[h]
     · obtain rfl:x=y:=by omega
       simp only[List.mem_cons,El n a b (by omega) z];constructor
       · rintro (h|h|h)<;>simp[h]
       · rintro ((h|h)|h|h)<;>simp[h]
def Jw (a:List Int):Prop:=a.Pairwise (·<·)
theorem Ho:∀ (n:Nat) (a b:List Int),a.length+b.length≤n→Jw a→Jw b→Jw (BE a b)
 | n,[],b,_,_,hb=>by rw[Gj];exact hb
 | n,x::a,[],_,ha,_=>by rw[Dd];exact ha
 | 0,x::a,y::b,h,_,_=>by simp at h
 | n+1,x::a,y::b,h,ha,hb=>by
   rw[DR];simp only[List.length_cons] at h;obtain⟨ha1,ha2⟩:=List.pairwise_cons.1 ha;obtain⟨hb1,hb2⟩:=List.pairwise_cons.1 hb;split
   · rename_i hxy;refine List.pairwise_cons.2 ⟨fun z hz=>?_,Ho n a (y::b) (by simp only[List.length_cons];omega) ha2 hb⟩;rcases (El _ a (y::b) (Nat.le_refl _) z).1 hz with h|h
     · exact ha1 z h
     · rcases List.mem_cons.1 h with rfl|h
       · exact hxy
       · have:=hb1 z h;omega
   · split
     · rename_i hxy;refine List.pairwise_cons.2 ⟨fun z hz=>?_,Ho n (x::a) b (by simp only[List.length_cons];omega) ha hb2⟩;rcases (El _ (x::a) b (Nat.le_refl _) z).1 hz with h|h
       · rcases List.mem_cons.1 h with rfl|h
         · exact hxy
         · have:=ha1 z h;omega
       · exact hb1 z h
     · obtain rfl:x=y:=by omega
       refine List.pairwise_cons.2 ⟨fun z hz=>?_,Ho n a b (by omega) ha2 hb2⟩;rcases (El _ a b (Nat.le_refl _) z).1 hz with h|h
       · exact ha1 z h
       · exact hb1 z h
def CA:List Int→Int→List Int
 | [],x=>[x]
 | y::l,x=>if y<x then y::CA l x else if y=x then y::l else x::y::l
theorem O0:∀ {a:List Int} {x:Int} {b:List Int},Jw a→Jw (x::b)→BE (CA a x) b=BE a (x::b)
 | [],x,b,_,hb=>by
   rw[Gj];show BE [x] b=x::b
   cases b with
   | nil=>rw[Dd]
   | cons y b =>
     have:=(List.pairwise_cons.1 hb).1 y (by simp);rw[DR,if_pos this,Gj]
 | y::a,x,b,ha,hb=>by
   obtain⟨ha1,ha2⟩:=List.pairwise_cons.1 ha;obtain⟨hb1,hb2⟩:=List.pairwise_cons.1 hb;unfold CA;rw[DR];split
   · rename_i h;rw[←O0 ha2 hb]
     cases b with
     | nil=>rw[Dd,Dd]
     | cons z b =>
       have:=hb1 z (by simp);rw[DR,if_pos (by omega)]
   · split
     · rename_i h1 h2;subst h2;rw[if_neg (by omega)]
       cases b with
       | nil=>rw[Dd,Dd]
       | cons z b =>
         have:=hb1 z (by simp);rw[DR,if_pos (by omega)]
     · rename_i h1 h2;rw[if_pos (by omega)]
       cases b with
       | nil=>rw[Dd,Dd]
       | cons z b =>
         have:=hb1 z (by simp);rw[DR,if_pos (by omega)]
theorem Uf:∀ {a:List Int} {x:Int},Jw a→Jw (CA a x)∧(∀ z,z∈CA a x↔z=x∨z∈a)
 | [],x,_=>⟨by simp[CA,Jw],by simp[CA]⟩
 | y::a,x,ha=>by
   obtain⟨ha1,ha2⟩:=List.pairwise_cons.1 ha;obtain⟨i1,i2⟩:=Uf (x:=x) ha2;unfold CA;split
   · rename_i h;refine⟨List.pairwise_cons.2 ⟨fun z hz=>?_,i1⟩,fun z=>?_⟩
     · rcases (i2 z).1 hz with rfl|hz
       · exact h
       · exact ha1 z hz
     · simp only[List.mem_cons,i2];constructor
       · rintro (h|h|h)<;>simp[h]
       · rintro (h|h|h)<;>simp[h]
   · split
     · rename_i h1 h2;subst h2;exact⟨ha,fun z=>by simp⟩
     · rename_i h1 h2;refine⟨List.pairwise_cons.2 ⟨fun z hz=>?_,ha⟩,fun z=>by simp⟩;rcases List.mem_cons.1 hz with rfl|hz
       · omega
       · have:=ha1 z hz;omega
theorem OQ:∀ {b a:List Int},Jw a→Jw b→b.foldl CA a=BE a b
 | [],a,_,_=>by rw[Dd];rfl
 | x::b,a,ha,hb=>by
   rw[List.foldl_cons,OQ (Uf ha).1 (List.pairwise_cons.1 hb).2,O0 ha hb]
theorem Hr:∀ {a:List Int} {x:Int},(CA a x).length≤a.length+1
 | [],x=>by simp[CA]
 | y::a,x=>by
   have:=Hr (a:=a) (x:=x);unfold CA;split<;>(try split)<;>simp<;>omega
def CY (a b:List Int):Option (List Int):=if (BE a b).length≤4 then some (BE a b) else none
def Jt:List Int→List Int→Bool
 | x::a,y::b=>if x=y then Jt a b else decide (x<y)
 | _,_=>false
def D1 (a b:List Int):Bool:=if a.length=b.length then Jt a b else decide (a.length<b.length)
theorem Wo:∀ {a b:List Int},a.length=b.length→Jt a b=false→Jt b a=false→a=b
 | [],[],_,_,_=>rfl
 | x::a,[],h,_,_=>by simp at h
 | [],y::b,h,_,_=>by simp at h
 | x::a,y::b,h,h1,h2=>by
   unfold Jt at h1 h2;by_cases e:x=y
   · subst e;rw[if_pos rfl] at h1 h2;rw[Wo (by simpa using h) h1 h2]
   · rw[if_neg e] at h1;rw[if_neg (fun h=>e h.symm)] at h2;simp only[decide_eq_false_iff_not] at h1 h2;omega
theorem bS {a b:List Int} (h1:D1 a b=false) (h2:D1 b a=false):a=b:=by
 unfold D1 at h1 h2;by_cases e:a.length=b.length
 · rw[if_pos e] at h1;rw[if_pos e.symm] at h2;exact Wo e h1 h2
 · rw[if_neg e] at h1;rw[if_neg (fun h=>e h.symm)] at h2;simp only[decide_eq_false_iff_not] at h1 h2;omega
theorem UB:∀ (a:List Int),Jt a a=false
 | []=>rfl
 | x::a=>by unfold Jt;rw[if_pos rfl];exact UB a
theorem Zh (a:List Int):D1 a a=false:=by unfold D1;rw[if_pos rfl];exact UB a
theorem Qk:∀ {a b c:List Int},a.length=b.length→b.length=c.length→Jt a b=true→Jt b c=true→Jt a c=true
 | [],b,c,_,_,h,_=>by simp[Jt] at h
 | x::a,[],c,h,_,_,_=>by simp at h
 | x::a,y::b,[],_,h,_,_=>by simp at h
 | x::a,y::b,z::c,h1,h2,h3,h4=>by
   unfold Jt at h3 h4 ⊢;by_cases e1:x=y
   · subst e1;rw[if_pos rfl] at h3;by_cases e2:x=z
     · rw[if_pos e2] at h4 ⊢;exact Qk (by simpa using h1) (by simpa using h2) h3 h4
     · rw[if_neg e2] at h4 ⊢;exact h4
   · rw[if_neg e1] at h3;by_cases e2:y=z
     · subst e2;rw[if_neg e1];exact h3
     · rw[if_neg e2] at h4;simp only[decide_eq_true_eq] at h3 h4;rw[if_neg (by omega)];simp only[decide_eq_true_eq];omega
theorem MT {a b:List Int} (h:D1 a b=true):a.length≤b.length:=by
 unfold D1 at h;split at h
 · omega
 · simp only[decide_eq_true_eq] at h;omega
theorem Wj {a b c:List Int} (h1:D1 a b=true) (h2:D1 b c=true):D1 a c=true:=by
 have l1:=MT h1;have l2:=MT h2;unfold D1 at h1 h2 ⊢;by_cases e1:a.length=b.length
 · rw[if_pos e1] at h1;by_cases e2:b.length=c.length
   · rw[if_pos e2] at h2;rw[if_pos (by omega)];exact Qk e1 e2 h1 h2
   · rw[if_neg (by omega)];simp only[decide_eq_true_eq];omega
 · rw[if_neg e1] at h1;simp only[decide_eq_true_eq] at h1;rw[if_neg (by omega)];simp only[decide_eq_true_eq];omega
abbrev EF:=List (List Int)
def Fd:EF→List Int→EF
 | [],c=>[c]
 | u::l,c=>if D1 u c=true then u::Fd l c else if u=c then u::l else c::u::l
def R7 (l:EF):Prop:=l.Pairwise (fun a b=>D1 a b=true)
theorem Pt:∀ {l:EF} {c:List Int},R7 l→R7 (Fd l c)∧(∀ z,z∈Fd l c↔z=c∨z∈l)∧(Fd l c).length≤l.length+1
 | [],c,_=>⟨by simp[Fd,R7],by simp[Fd],by simp[Fd]⟩
 | u::l,c,h=>by
   obtain⟨h1,h2⟩:=List.pairwise_cons.1 h;obtain⟨i1,i2,i3⟩:=Pt (c:=c) h2;unfold Fd;split
   · rename_i hu;refine⟨List.pairwise_cons.2 ⟨fun z hz=>?_,i1⟩,fun z=>?_,by simp;omega⟩
     · rcases (i2 z).1 hz with rfl|hz
       · exact hu
       · exact h1 z hz
     · simp only[List.mem_cons,i2];constructor
       · rintro (h|h|h)<;>simp[h]
       · rintro (h|h|h)<;>simp[h]
   · split
     · rename_i h3 h4;subst h4;exact⟨h,fun z=>by simp,by simp⟩
     · rename_i h3 h4
       have hcu:D1 c u=true:=by
        cases e:D1 c u with
        | true=>rfl
        | false=>exact absurd (bS (by simpa using h3) e) h4
       refine⟨List.pairwise_cons.2 ⟨fun z hz=>?_,h⟩,fun z=>by simp,by simp⟩;rcases List.mem_cons.1 hz with rfl|hz
       · exact hcu
       · exact Wj hcu (h1 z hz)
def V2 (l:EF) (o:Option (List Int)):EF:=match o with|some c=>Fd l c|none=>l
def Lp (x:List Int) (b:EF) (l:EF):EF:=b.foldl (fun l y=>V2 l (CY x y)) l
def Iu (a b:EF):EF:=a.foldl (fun l x=>Lp x b l) []
def G3 (v u:List Int):Bool:=v.all fun z=>decide (z∈u)
def SE (v u:List Int):Bool:=decide (v.length<u.length)&&G3 v u
def FK (l:EF) (u:List Int):Bool:=l.all fun v=>!SE v u
def Kc (a b:EF):EF:=((Iu a b).filter (FK (Iu a b))).take 7
structure N0 (P:List Int→Prop) (l:EF):Prop where
 sort:R7 l
 all:∀ z∈l,P z
theorem Zg {P:List Int→Prop} {l:EF} {o:Option (List Int)} (h:N0 P l) (ho:∀ c,o=some c→P c):N0 P (V2 l o)∧(V2 l o).length≤l.length+1:=by
 cases o with
 | none=>exact⟨h,by simp[V2]⟩
 | some c =>
   obtain⟨a,b,d⟩:=Pt (c:=c) h.sort;exact⟨⟨a,fun z hz=>by rcases (b z).1 hz with rfl|hz;exact ho z rfl;exact h.all z hz⟩,d⟩
theorem MX {P:List Int→Prop} {x:List Int}:∀ (b:EF) {l:EF},N0 P l→(∀ y∈b,∀ c,CY x y=some c→P c)→N0 P (Lp x b l)∧(Lp x b l).length≤l.length+b.length
 | [],l,h,_=>⟨h,by simp[Lp]⟩
 | y::b,l,h,hb=>by
   obtain⟨a1,a2⟩:=Zg h (hb y (by simp));obtain⟨b1,b2⟩:=MX b a1 fun z hz=>hb z (by simp[hz]);have e:Lp x (y::b) l=Lp x b (V2 l (CY x y)):=rfl;rw[e];exact⟨b1,by simp only[List.length_cons];omega⟩
theorem Ig {P:List Int→Prop} {b:EF}:∀ (a:EF) {l:EF},N0 P l→(∀ x∈a,∀ y∈b,∀ c,CY x y=some c→P c)→N0 P (a.foldl (fun l x=>Lp x b l) l)∧(a.foldl (fun l x=>Lp x b l) l).length≤l.length+a.length*b.length
 | [],l,h,_=>⟨h,by simp⟩
 | x::a,l,h,ha=>by
   obtain⟨a1,a2⟩:=MX b h (ha x (by simp));obtain⟨b1,b2⟩:=Ig a a1 fun z hz=>ha z (by simp[hz]);rw[List.foldl_cons];refine⟨b1,?_⟩;simp only[List.length_cons,Nat.add_mul,Nat.one_mul];omega
theorem Z5 {l:EF} (hs:R7 l) {i:Nat} {u:List Int} (hi:l[i]? = some u):FK l u=FK (l.take i) u:=by
 have hil:=(zz1.1 hi).1
 have hd:∀ v∈l.drop i,SE v u=false:=fun v hv=>by
  obtain⟨j,hj⟩:=List.mem_iff_getElem?.1 hv;rw[ACj] at hj;unfold SE;by_cases h0:j=0
  · subst h0;rw[Nat.add_zero,hi] at hj;injection hj with hj;subst hj;simp
  · have hlt:=(zz1.1 hj).1;have:=List.pairwise_iff_getElem.1 hs i (i+j) hil hlt (by omega);rw[(zz1.1 hi).2,(zz1.1 hj).2] at this;have:=MT this;rw[zz3 (by omega)];rfl
 unfold FK
 conv=>lhs;rw[←List.take_append_drop i l]
 rw[List.all_append];have:(l.drop i).all (fun v=>!SE v u)=true:=zz8.2 fun v hv=>by rw[hd v hv];rfl
 rw[this,Bool.and_true]
def Oc (F:Nat) (ka kb:Nat→Nat) (all:List EF) (k:Nat):EF:=(if F≤k then Kc ((all[ka k]?).getD []) ((all[kb k]?).getD []) else [])++[[(k:Int)]]
def GP (F:Nat) (ka kb:Nat→Nat):Nat→List EF
 | 0=>[[[]]]
 | k+1=>GP F ka kb k++[Oc F ka kb (GP F ka kb k) (k+1)]
theorem CP {F:Nat} {ka kb:Nat→Nat}:∀ k,(GP F ka kb k).length=k+1
 | 0=>rfl
 | k+1=>by simp[GP,CP k]
theorem Fh {F:Nat} {ka kb:Nat→Nat} {i:Nat}:∀ {j:Nat},i≤j→(GP F ka kb j)[i]? = (GP F ka kb i)[i]?
 | 0,h=>by obtain rfl:i=0:=by omega
           rfl
 | j+1,h=>by
   by_cases e:i=j+1
   · subst e;rfl
   · rw[←Fh (show i≤j by omega)];show (GP F ka kb j++_)[i]? = _;rw[zz4 (by rw[CP];omega)]
theorem RE {a b:EF}:(Kc a b).length≤7:=by unfold Kc;simp;omega
theorem jJ {F:Nat} {ka kb:Nat→Nat} {all:List EF} {k:Nat}:(Oc F ka kb all k).length≤8:=by
 unfold Oc;have:=RE (a:=(all[ka k]?).getD []) (b:=(all[kb k]?).getD []);split<;>simp<;>omega
def RowP (m:Nat) (c:List Int):Prop:=Jw c∧c.length≤4∧∀ z∈c,0≤z∧z≤m
theorem RowP.mono {m n:Nat} {c:List Int} (h:RowP m c) (hmn:m≤n):RowP n c:=⟨h.1,h.2.1,fun z hz=>by have:=h.2.2 z hz;omega⟩
theorem HE {m:Nat} {x y c:List Int} (hx:RowP m x) (hy:RowP m y) (h:CY x y=some c):RowP m c:=by
 unfold CY at h;split at h
 · rename_i hl;injection h with h;subst h;refine⟨Ho _ x y (Nat.le_refl _) hx.1 hy.1,hl,fun z hz=>?_⟩;rcases (El _ x y (Nat.le_refl _) z).1 hz with h|h
   · exact hx.2.2 z h
   · exact hy.2.2 z h
 · cases h
theorem eC {m:Nat} {a b:EF} (ha:∀ x∈a,RowP m x) (hb:∀ y∈b,RowP m y):∀ z∈Kc a b,RowP m z:=fun z hz=>by
 have:=(Ig (P:=RowP m) (b:=b) a (l:=[]) ⟨List.Pairwise.nil,by simp⟩ fun x hx y hy c hc=>HE (ha x hx) (hb y hy) hc).1;exact this.all z (ACQ.1 (List.mem_of_mem_take hz)).1
theorem Qy {F N:Nat} {ka kb:Nat→Nat} (hk:∀ p,F≤p→p<N→ka p<p∧kb p<p):∀ (k:Nat),k<N→∀ (i:Nat) (l:EF),(GP F ka kb k)[i]? = some l→l.length≤8∧∀ c∈l,RowP i c
 | 0,_,i,l,h=>by
   have hi:=(zz1.1 h).1;simp[GP] at hi;subst hi;simp[GP] at h;subst h;exact⟨by simp,fun c hc=>by simp at hc;subst hc;exact⟨by simp[Jw],by simp,by simp⟩⟩
 | k+1,hkN,i,l,h=>by
   have ih:=Qy hk k (by omega);have hi:=(zz1.1 h).1;rw[CP] at hi;by_cases e:i=k+1
   · subst e;unfold GP at h;rw[zz5 (by rw[CP];exact Nat.le_refl _),CP,Nat.sub_self] at h;simp at h;subst h;refine⟨jJ,fun c hc=>?_⟩;unfold Oc at hc;rcases ACE.1 hc with hc|hc
     · split at hc
       · rename_i hF;obtain⟨h1,h2⟩:=hk (k+1) hF hkN
         have g:∀ q,q<k+1→∀ x∈((GP F ka kb k)[q]?).getD [],RowP k x:=fun q hq x hx=>by
          have:(GP F ka kb k)[q]? = some ((GP F ka kb k)[q]'(by rw[CP];omega)):=zz0 _;rw[this] at hx;exact ((ih q _ this).2 x hx).mono (by omega)
         exact (eC (g _ h1) (g _ h2) c hc).mono (by omega)
       · simp at hc
     · rw[zz9.1 hc];exact⟨by simp[Jw],by simp,fun z hz=>by simp at hz;omega⟩
   · have:(GP F ka kb k)[i]? = some l:=by
      rw[←h];show _=(GP F ka kb k++_)[i]?;rw[zz4 (by rw[CP];omega)]
     exact ih i l this
end Go.Proofs.Ytnjedabjbeipeaa
