/-
  Selections of cuts, as plain data: unions of ascending lists, an order of lists, candidates in order without those that contain lesser ones. Plain lemmas, about no function of the program.
  Conditions: those typed in each theorem.
-/
import Derived.Test.YtakohcpfjkcfdaaNh
namespace Go.Proofs.Ytakohcpfjkcfdaa
set_option linter.unusedVariables false
set_option linter.unusedSimpArgs false
def mergeL:List Int→List Int→List Int
 | [],b=>b
 | a,[]=>a
 | x::a,y::b=>if x<y then x::mergeL a (y::b) else if y<x then y::mergeL (x::a) b else x::mergeL a b
termination_by a b=>a.length+b.length
theorem mergeL_nil {a:List Int}:mergeL a []=a:=by cases a<;>simp[mergeL]
theorem mergeL_nil' {b:List Int}:mergeL [] b=b:=by simp[mergeL]
theorem mergeL_cons {x y:Int} {a b:List Int}:mergeL (x::a) (y::b)=if x<y then x::mergeL a (y::b) else if y<x then y::mergeL (x::a) b else x::mergeL a b:=by rw[mergeL]
theorem mergeL_len:∀ (n:Nat) (a b:List Int),a.length+b.length≤n→(mergeL a b).length≤a.length+b.length∧a.length≤(mergeL a b).length∧b.length≤(mergeL a b).length
 | n,[],b,_=>by rw[mergeL_nil'];simp
 | n,x::a,[],_=>by rw[mergeL_nil];simp
 | 0,x::a,y::b,h=>by simp at h
 | n+1,x::a,y::b,h=>by
   rw[mergeL_cons]
   simp only[List.length_cons] at h ⊢
   split
   · have:=mergeL_len n a (y::b) (by simp only[List.length_cons];omega)
     simp only[List.length_cons] at this ⊢;omega
   · split
     · have:=mergeL_len n (x::a) b (by simp only[List.length_cons];omega)
       simp only[List.length_cons] at this ⊢;omega
     · have:=mergeL_len n a b (by omega)
       simp only[List.length_cons];omega
theorem mergeL_mem:∀ (n:Nat) (a b:List Int),a.length+b.length≤n→∀ z,(z∈mergeL a b↔z∈a∨z∈b)
 | n,[],b,_,z=>by rw[mergeL_nil'];simp
 | n,x::a,[],_,z=>by rw[mergeL_nil];simp
 | 0,x::a,y::b,h,z=>by simp at h
 | n+1,x::a,y::b,h,z=>by
   rw[mergeL_cons]
   simp only[List.length_cons] at h
   split
   · simp only[List.mem_cons,mergeL_mem n a (y::b) (by simp only[List.length_cons];omega) z]
     constructor
     · rintro (h|h|h|h)<;>simp[h]
     · rintro ((h|h)|h|h)<;>simp[h]
   · split
     · simp only[List.mem_cons,mergeL_mem n (x::a) b (by simp only[List.length_cons];omega) z]
       constructor
       · rintro (h|(h|h)|h)<;>simp[h]
       · rintro ((h|h)|h|h)<;>simp[h]
     · obtain rfl:x=y:=by omega
       simp only[List.mem_cons,mergeL_mem n a b (by omega) z]
       constructor
       · rintro (h|h|h)<;>simp[h]
       · rintro ((h|h)|h|h)<;>simp[h]
def AscP (a:List Int):Prop:=a.Pairwise (·<·)
theorem mergeL_asc:∀ (n:Nat) (a b:List Int),a.length+b.length≤n→AscP a→AscP b→AscP (mergeL a b)
 | n,[],b,_,_,hb=>by rw[mergeL_nil'];exact hb
 | n,x::a,[],_,ha,_=>by rw[mergeL_nil];exact ha
 | 0,x::a,y::b,h,_,_=>by simp at h
 | n+1,x::a,y::b,h,ha,hb=>by
   rw[mergeL_cons]
   simp only[List.length_cons] at h
   obtain⟨ha1,ha2⟩:=List.pairwise_cons.1 ha
   obtain⟨hb1,hb2⟩:=List.pairwise_cons.1 hb
   split
   · rename_i hxy
     refine List.pairwise_cons.2 ⟨fun z hz=>?_,mergeL_asc n a (y::b) (by simp only[List.length_cons];omega) ha2 hb⟩
     rcases (mergeL_mem _ a (y::b) (Nat.le_refl _) z).1 hz with h|h
     · exact ha1 z h
     · rcases List.mem_cons.1 h with rfl|h
       · exact hxy
       · have:=hb1 z h;omega
   · split
     · rename_i hxy
       refine List.pairwise_cons.2 ⟨fun z hz=>?_,mergeL_asc n (x::a) b (by simp only[List.length_cons];omega) ha hb2⟩
       rcases (mergeL_mem _ (x::a) b (Nat.le_refl _) z).1 hz with h|h
       · rcases List.mem_cons.1 h with rfl|h
         · exact hxy
         · have:=ha1 z h;omega
       · exact hb1 z h
     · obtain rfl:x=y:=by omega
       refine List.pairwise_cons.2 ⟨fun z hz=>?_,mergeL_asc n a b (by omega) ha2 hb2⟩
       rcases (mergeL_mem _ a b (Nat.le_refl _) z).1 hz with h|h
       · exact ha1 z h
       · exact hb1 z h
def insI:List Int→Int→List Int
 | [],x=>[x]
 | y::l,x=>if y<x then y::insI l x else if y=x then y::l else x::y::l
theorem insI_merge:∀ {a:List Int} {x:Int} {b:List Int},AscP a→AscP (x::b)→mergeL (insI a x) b=mergeL a (x::b)
 | [],x,b,_,hb=>by
   rw[mergeL_nil']
   show mergeL [x] b=x::b
   cases b with
   | nil=>rw[mergeL_nil]
   | cons y b =>
     have:=(List.pairwise_cons.1 hb).1 y (by simp)
     rw[mergeL_cons,if_pos this,mergeL_nil']
 | y::a,x,b,ha,hb=>by
   obtain⟨ha1,ha2⟩:=List.pairwise_cons.1 ha
   obtain⟨hb1,hb2⟩:=List.pairwise_cons.1 hb
   unfold insI
   rw[mergeL_cons]
   split
   · rename_i h
     rw[←insI_merge ha2 hb]
     cases b with
     | nil=>rw[mergeL_nil,mergeL_nil]
     | cons z b =>
       have:=hb1 z (by simp)
       rw[mergeL_cons,if_pos (by omega)]
   · split
     · rename_i h1 h2
       subst h2
       rw[if_neg (by omega)]
       cases b with
       | nil=>rw[mergeL_nil,mergeL_nil]
       | cons z b =>
         have:=hb1 z (by simp)
         rw[mergeL_cons,if_pos (by omega)]
     · rename_i h1 h2
       rw[if_pos (by omega)]
       cases b with
       | nil=>rw[mergeL_nil,mergeL_nil]
       | cons z b =>
         have:=hb1 z (by simp)
         rw[mergeL_cons,if_pos (by omega)]
theorem insI_asc:∀ {a:List Int} {x:Int},AscP a→AscP (insI a x)∧(∀ z,z∈insI a x↔z=x∨z∈a)
 | [],x,_=>⟨by simp[insI,AscP],by simp[insI]⟩
 | y::a,x,ha=>by
   obtain⟨ha1,ha2⟩:=List.pairwise_cons.1 ha
   obtain⟨i1,i2⟩:=insI_asc (x:=x) ha2
   unfold insI
   split
   · rename_i h
     refine⟨List.pairwise_cons.2 ⟨fun z hz=>?_,i1⟩,fun z=>?_⟩
     · rcases (i2 z).1 hz with rfl|hz
       · exact h
       · exact ha1 z hz
     · simp only[List.mem_cons,i2]
       constructor
       · rintro (h|h|h)<;>simp[h]
       · rintro (h|h|h)<;>simp[h]
   · split
     · rename_i h1 h2
       subst h2
       exact⟨ha,fun z=>by simp⟩
     · rename_i h1 h2
       refine⟨List.pairwise_cons.2 ⟨fun z hz=>?_,ha⟩,fun z=>by simp⟩
       rcases List.mem_cons.1 hz with rfl|hz
       · omega
       · have:=ha1 z hz;omega
theorem fold_merge:∀ {b a:List Int},AscP a→AscP b→b.foldl insI a=mergeL a b
 | [],a,_,_=>by rw[mergeL_nil];rfl
 | x::b,a,ha,hb=>by
   rw[List.foldl_cons,fold_merge (insI_asc ha).1 (List.pairwise_cons.1 hb).2,insI_merge ha hb]
theorem insI_len:∀ {a:List Int} {x:Int},(insI a x).length≤a.length+1
 | [],x=>by simp[insI]
 | y::a,x=>by
   have:=insI_len (a:=a) (x:=x)
   unfold insI
   split<;>(try split)<;>simp<;>omega
def mergeO (a b:List Int):Option (List Int):=if (mergeL a b).length≤4 then some (mergeL a b) else none
def lexB:List Int→List Int→Bool
 | x::a,y::b=>if x=y then lexB a b else decide (x<y)
 | _,_=>false
def lessB (a b:List Int):Bool:=if a.length=b.length then lexB a b else decide (a.length<b.length)
theorem lexB_tri:∀ {a b:List Int},a.length=b.length→lexB a b=false→lexB b a=false→a=b
 | [],[],_,_,_=>rfl
 | x::a,[],h,_,_=>by simp at h
 | [],y::b,h,_,_=>by simp at h
 | x::a,y::b,h,h1,h2=>by
   unfold lexB at h1 h2
   by_cases e:x=y
   · subst e
     rw[if_pos rfl] at h1 h2
     rw[lexB_tri (by simpa using h) h1 h2]
   · rw[if_neg e] at h1
     rw[if_neg (fun h=>e h.symm)] at h2
     simp only[decide_eq_false_iff_not] at h1 h2
     omega
theorem lessB_tri {a b:List Int} (h1:lessB a b=false) (h2:lessB b a=false):a=b:=by
 unfold lessB at h1 h2
 by_cases e:a.length=b.length
 · rw[if_pos e] at h1
   rw[if_pos e.symm] at h2
   exact lexB_tri e h1 h2
 · rw[if_neg e] at h1
   rw[if_neg (fun h=>e h.symm)] at h2
   simp only[decide_eq_false_iff_not] at h1 h2
   omega
theorem lexB_irr:∀ (a:List Int),lexB a a=false
 | []=>rfl
 | x::a=>by unfold lexB;rw[if_pos rfl];exact lexB_irr a
theorem lessB_irr (a:List Int):lessB a a=false:=by unfold lessB;rw[if_pos rfl];exact lexB_irr a
theorem lexB_trans:∀ {a b c:List Int},a.length=b.length→b.length=c.length→lexB a b=true→lexB b c=true→lexB a c=true
 | [],b,c,_,_,h,_=>by simp[lexB] at h
 | x::a,[],c,h,_,_,_=>by simp at h
 | x::a,y::b,[],_,h,_,_=>by simp at h
 | x::a,y::b,z::c,h1,h2,h3,h4=>by
   unfold lexB at h3 h4 ⊢
   by_cases e1:x=y
   · subst e1
     rw[if_pos rfl] at h3
     by_cases e2:x=z
     · rw[if_pos e2] at h4 ⊢
       exact lexB_trans (by simpa using h1) (by simpa using h2) h3 h4
     · rw[if_neg e2] at h4 ⊢
       exact h4
   · rw[if_neg e1] at h3
     by_cases e2:y=z
     · subst e2
       rw[if_neg e1]
       exact h3
     · rw[if_neg e2] at h4
       simp only[decide_eq_true_eq] at h3 h4
       rw[if_neg (by omega)]
       simp only[decide_eq_true_eq];omega
theorem lessB_len {a b:List Int} (h:lessB a b=true):a.length≤b.length:=by
 unfold lessB at h
 split at h
 · omega
 · simp only[decide_eq_true_eq] at h;omega
theorem lessB_trans {a b c:List Int} (h1:lessB a b=true) (h2:lessB b c=true):lessB a c=true:=by
 have l1:=lessB_len h1
 have l2:=lessB_len h2
 unfold lessB at h1 h2 ⊢
 by_cases e1:a.length=b.length
 · rw[if_pos e1] at h1
   by_cases e2:b.length=c.length
   · rw[if_pos e2] at h2
     rw[if_pos (by omega)]
     exact lexB_trans e1 e2 h1 h2
   · rw[if_neg (by omega)]
     simp only[decide_eq_true_eq];omega
 · rw[if_neg e1] at h1
   simp only[decide_eq_true_eq] at h1
   rw[if_neg (by omega)]
   simp only[decide_eq_true_eq];omega
abbrev Rws:=List (List Int)
def insC:Rws→List Int→Rws
 | [],c=>[c]
 | u::l,c=>if lessB u c=true then u::insC l c else if u=c then u::l else c::u::l
def SortC (l:Rws):Prop:=l.Pairwise (fun a b=>lessB a b=true)
theorem insC_facts:∀ {l:Rws} {c:List Int},SortC l→SortC (insC l c)∧(∀ z,z∈insC l c↔z=c∨z∈l)∧(insC l c).length≤l.length+1
 | [],c,_=>⟨by simp[insC,SortC],by simp[insC],by simp[insC]⟩
 | u::l,c,h=>by
   obtain⟨h1,h2⟩:=List.pairwise_cons.1 h
   obtain⟨i1,i2,i3⟩:=insC_facts (c:=c) h2
   unfold insC
   split
   · rename_i hu
     refine⟨List.pairwise_cons.2 ⟨fun z hz=>?_,i1⟩,fun z=>?_,by simp;omega⟩
     · rcases (i2 z).1 hz with rfl|hz
       · exact hu
       · exact h1 z hz
     · simp only[List.mem_cons,i2]
       constructor
       · rintro (h|h|h)<;>simp[h]
       · rintro (h|h|h)<;>simp[h]
   · split
     · rename_i h3 h4
       subst h4
       exact⟨h,fun z=>by simp,by simp⟩
     · rename_i h3 h4
       have hcu:lessB c u=true:=by
        cases e:lessB c u with
        | true=>rfl
        | false=>exact absurd (lessB_tri (by simpa using h3) e) h4
       refine⟨List.pairwise_cons.2 ⟨fun z hz=>?_,h⟩,fun z=>by simp,by simp⟩
       rcases List.mem_cons.1 hz with rfl|hz
       · exact hcu
       · exact lessB_trans hcu (h1 z hz)
def addO (l:Rws) (o:Option (List Int)):Rws:=match o with|some c=>insC l c|none=>l
def rowC (x:List Int) (b:Rws) (l:Rws):Rws:=b.foldl (fun l y=>addO l (mergeO x y)) l
def candC (a b:Rws):Rws:=a.foldl (fun l x=>rowC x b l) []
def withinB (v u:List Int):Bool:=v.all fun z=>decide (z∈u)
def domB (v u:List Int):Bool:=decide (v.length<u.length)&&withinB v u
def keepB (l:Rws) (u:List Int):Bool:=l.all fun v=>!domB v u
def joinC (a b:Rws):Rws:=((candC a b).filter (keepB (candC a b))).take 7
structure GoodC (P:List Int→Prop) (l:Rws):Prop where
 sort:SortC l
 all:∀ z∈l,P z
theorem addO_good {P:List Int→Prop} {l:Rws} {o:Option (List Int)} (h:GoodC P l) (ho:∀ c,o=some c→P c):GoodC P (addO l o)∧(addO l o).length≤l.length+1:=by
 cases o with
 | none=>exact⟨h,by simp[addO]⟩
 | some c =>
   obtain⟨a,b,d⟩:=insC_facts (c:=c) h.sort
   exact⟨⟨a,fun z hz=>by rcases (b z).1 hz with rfl|hz;exact ho z rfl;exact h.all z hz⟩,d⟩
theorem rowC_good {P:List Int→Prop} {x:List Int}:∀ (b:Rws) {l:Rws},GoodC P l→(∀ y∈b,∀ c,mergeO x y=some c→P c)→GoodC P (rowC x b l)∧(rowC x b l).length≤l.length+b.length
 | [],l,h,_=>⟨h,by simp[rowC]⟩
 | y::b,l,h,hb=>by
   obtain⟨a1,a2⟩:=addO_good h (hb y (by simp))
   obtain⟨b1,b2⟩:=rowC_good b a1 fun z hz=>hb z (by simp[hz])
   have e:rowC x (y::b) l=rowC x b (addO l (mergeO x y)):=rfl
   rw[e]
   exact⟨b1,by simp only[List.length_cons];omega⟩
theorem cand_good {P:List Int→Prop} {b:Rws}:∀ (a:Rws) {l:Rws},GoodC P l→(∀ x∈a,∀ y∈b,∀ c,mergeO x y=some c→P c)→GoodC P (a.foldl (fun l x=>rowC x b l) l)∧(a.foldl (fun l x=>rowC x b l) l).length≤l.length+a.length*b.length
 | [],l,h,_=>⟨h,by simp⟩
 | x::a,l,h,ha=>by
   obtain⟨a1,a2⟩:=rowC_good b h (ha x (by simp))
   obtain⟨b1,b2⟩:=cand_good a a1 fun z hz=>ha z (by simp[hz])
   rw[List.foldl_cons]
   refine⟨b1,?_⟩
   simp only[List.length_cons,Nat.add_mul,Nat.one_mul]
   omega
theorem keep_take {l:Rws} (hs:SortC l) {i:Nat} {u:List Int} (hi:l[i]? = some u):keepB l u=keepB (l.take i) u:=by
 have hil:=(List.getElem?_eq_some_iff.1 hi).1
 have hd:∀ v∈l.drop i,domB v u=false:=fun v hv=>by
  obtain⟨j,hj⟩:=List.mem_iff_getElem?.1 hv
  rw[List.getElem?_drop] at hj
  unfold domB
  by_cases h0:j=0
  · subst h0
    rw[Nat.add_zero,hi] at hj
    injection hj with hj
    subst hj
    simp
  · have hlt:=(List.getElem?_eq_some_iff.1 hj).1
    have:=List.pairwise_iff_getElem.1 hs i (i+j) hil hlt (by omega)
    rw[(List.getElem?_eq_some_iff.1 hi).2,(List.getElem?_eq_some_iff.1 hj).2] at this
    have:=lessB_len this
    rw[decide_eq_false (by omega)]
    rfl
 unfold keepB
 conv=>lhs;rw[←List.take_append_drop i l]
 rw[List.all_append]
 have:(l.drop i).all (fun v=>!domB v u)=true:=List.all_eq_true.2 fun v hv=>by rw[hd v hv];rfl
 rw[this,Bool.and_true]
def entC (F:Nat) (ka kb:Nat→Nat) (all:List Rws) (k:Nat):Rws:=(if F≤k then joinC ((all[ka k]?).getD []) ((all[kb k]?).getD []) else [])++[[(k:Int)]]
def allC (F:Nat) (ka kb:Nat→Nat):Nat→List Rws
 | 0=>[[[]]]
 | k+1=>allC F ka kb k++[entC F ka kb (allC F ka kb k) (k+1)]
theorem allC_len {F:Nat} {ka kb:Nat→Nat}:∀ k,(allC F ka kb k).length=k+1
 | 0=>rfl
 | k+1=>by simp[allC,allC_len k]
theorem allC_stay {F:Nat} {ka kb:Nat→Nat} {i:Nat}:∀ {j:Nat},i≤j→(allC F ka kb j)[i]? = (allC F ka kb i)[i]?
 | 0,h=>by obtain rfl:i=0:=by omega
           rfl
 | j+1,h=>by
   by_cases e:i=j+1
   · subst e;rfl
   · rw[←allC_stay (show i≤j by omega)]
     show (allC F ka kb j++_)[i]? = _
     rw[List.getElem?_append_left (by rw[allC_len];omega)]
theorem joinC_len {a b:Rws}:(joinC a b).length≤7:=by unfold joinC;simp;omega
theorem entC_len {F:Nat} {ka kb:Nat→Nat} {all:List Rws} {k:Nat}:(entC F ka kb all k).length≤8:=by
 unfold entC
 have:=joinC_len (a:=(all[ka k]?).getD []) (b:=(all[kb k]?).getD [])
 split<;>simp<;>omega
def RowP (m:Nat) (c:List Int):Prop:=AscP c∧c.length≤4∧∀ z∈c,0≤z∧z≤m
theorem RowP.mono {m n:Nat} {c:List Int} (h:RowP m c) (hmn:m≤n):RowP n c:=⟨h.1,h.2.1,fun z hz=>by have:=h.2.2 z hz;omega⟩
theorem mergeO_row {m:Nat} {x y c:List Int} (hx:RowP m x) (hy:RowP m y) (h:mergeO x y=some c):RowP m c:=by
 unfold mergeO at h
 split at h
 · rename_i hl
   injection h with h
   subst h
   refine⟨mergeL_asc _ x y (Nat.le_refl _) hx.1 hy.1,hl,fun z hz=>?_⟩
   rcases (mergeL_mem _ x y (Nat.le_refl _) z).1 hz with h|h
   · exact hx.2.2 z h
   · exact hy.2.2 z h
 · cases h
theorem join_row {m:Nat} {a b:Rws} (ha:∀ x∈a,RowP m x) (hb:∀ y∈b,RowP m y):∀ z∈joinC a b,RowP m z:=fun z hz=>by
 have:=(cand_good (P:=RowP m) (b:=b) a (l:=[]) ⟨List.Pairwise.nil,by simp⟩ fun x hx y hy c hc=>mergeO_row (ha x hx) (hb y hy) hc).1
 exact this.all z (List.mem_filter.1 (List.mem_of_mem_take hz)).1
theorem allC_row {F N:Nat} {ka kb:Nat→Nat} (hk:∀ p,F≤p→p<N→ka p<p∧kb p<p):∀ (k:Nat),k<N→∀ (i:Nat) (l:Rws),(allC F ka kb k)[i]? = some l→l.length≤8∧∀ c∈l,RowP i c
 | 0,_,i,l,h=>by
   have hi:=(List.getElem?_eq_some_iff.1 h).1
   simp[allC] at hi
   subst hi
   simp[allC] at h
   subst h
   exact⟨by simp,fun c hc=>by simp at hc;subst hc;exact⟨by simp[AscP],by simp,by simp⟩⟩
 | k+1,hkN,i,l,h=>by
   have ih:=allC_row hk k (by omega)
   have hi:=(List.getElem?_eq_some_iff.1 h).1
   rw[allC_len] at hi
   by_cases e:i=k+1
   · subst e
     unfold allC at h
     rw[List.getElem?_append_right (by rw[allC_len];exact Nat.le_refl _),allC_len,Nat.sub_self] at h
     simp at h
     subst h
     refine⟨entC_len,fun c hc=>?_⟩
     unfold entC at hc
     rcases List.mem_append.1 hc with hc|hc
     · split at hc
       · rename_i hF
         obtain⟨h1,h2⟩:=hk (k+1) hF hkN
         have g:∀ q,q<k+1→∀ x∈((allC F ka kb k)[q]?).getD [],RowP k x:=fun q hq x hx=>by
          have:(allC F ka kb k)[q]? = some ((allC F ka kb k)[q]'(by rw[allC_len];omega)):=List.getElem?_eq_getElem _
          rw[this] at hx
          exact ((ih q _ this).2 x hx).mono (by omega)
         exact (join_row (g _ h1) (g _ h2) c hc).mono (by omega)
       · simp at hc
     · rw[List.mem_singleton.1 hc]
       exact⟨by simp[AscP],by simp,fun z hz=>by simp at hz;omega⟩
   · have:(allC F ka kb k)[i]? = some l:=by
      rw[←h]
      show _=(allC F ka kb k++_)[i]?
      rw[List.getElem?_append_left (by rw[allC_len];omega)]
     exact ih i l this
end Go.Proofs.Ytakohcpfjkcfdaa
