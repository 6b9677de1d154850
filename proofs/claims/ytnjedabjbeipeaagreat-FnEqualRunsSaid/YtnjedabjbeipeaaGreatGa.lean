/-
  Selections of cuts, as plain data: unions of ascending lists, an order of lists, candidates in order without those that contain lesser Ih. Plain lemmas, about no function of the program.
  Conditions: those typed in each theorem.
-/
import Derived.Test.YtnjedabjbeipeaaGreatNh
namespace Go.Proofs.YtnjedabjbeipeaaGreat
set_option linter.unusedSimpArgs false
set_option linter.unusedVariables false
set_option maxRecDepth 100000
set_option maxHeartbeats 10000000
def Ce:List Int→List Int→List Int
 | [],b=>b
 | a,[]=>a
 | x::a,y::b=>if x<y then x::Ce a (y::b) else if y<x then y::Ce (x::a) b else x::Ce a b
termination_by a b=>a.length+b.length
theorem GK {a:List Int}:Ce a []=a:=by cases a<;>simp[Ce]
theorem Hf {b:List Int}:Ce [] b=b:=by simp[Ce]
theorem Iv {x y:Int} {a b:List Int}:Ce (x::a) (y::b)=if x<y then x::Ce a (y::b) else if y<x then y::Ce (x::a) b else x::Ce a b:=by rw[Ce]
theorem GL:∀ (n:Nat) (a b:List Int),a.length+b.length≤n→(Ce a b).length≤a.length+b.length∧a.length≤(Ce a b).length∧b.length≤(Ce a b).length
 | n,[],b,_=>by rw[Hf];simp
 | n,x::a,[],_=>by rw[GK];simp
 | 0,x::a,y::b,h=>by simp at h
 | n+1,x::a,y::b,h=>by
   rw[Iv];simp only[List.length_cons] at h ⊢;split
   · have:=GL n a (y::b) (by simp only[List.length_cons];omega);simp only[List.length_cons] at this ⊢;omega
   · split
     · have:=GL n (x::a) b (by simp only[List.length_cons];omega);simp only[List.length_cons] at this ⊢;omega
     · have:=GL n a b (by omega);simp only[List.length_cons];omega
theorem E5:∀ (n:Nat) (a b:List Int),a.length+b.length≤n→∀ z,(z∈Ce a b↔z∈a∨z∈b)
 | n,[],b,_,z=>by rw[Hf];simp
 | n,x::a,[],_,z=>by rw[GK];simp
 | 0,x::a,y::b,h,z=>by simp at h
 | n+1,x::a,y::b,h,z=>by
   rw[Iv];simp only[List.length_cons] at h;split
   · simp only[List.mem_cons,E5 n a (y::b) (by simp only[List.length_cons];omega) z];constructor
     · rintro (h|h|h|h)<;>simp[h]
     · rintro ((h|h)|h|h)<;>simp[h]
   · split
     · simp only[List.mem_cons,E5 n (x::a) b (by simp only[List.length_cons];omega) z];constructor
       · rintro (h|(h|h)|h)<;>simp[h]
       · rintro ((h|h)|h|h)<;>simp[h]
     · obtain rfl:x=y:=by omega
       simp only[List.mem_cons,E5 n a b (by omega) z];constructor
       · rintro (h|h|h)<;>simp[h]
       · rintro ((h|h)|h|h)<;>simp[h]
def MT (a:List Int):Prop:=a.Pairwise (·<·)
theorem H5:∀ (n:Nat) (a b:List Int),a.length+b.length≤n→MT a→MT b→MT (Ce a b)
 | n,[],b,_,_,hb=>by rw[Hf];exact hb
 | n,x::a,[],_,ha,_=>by rw[GK];exact ha
 | 0,x::a,y::b,h,_,_=>by simp at h
 | n+1,x::a,y::b,h,ha,hb=>by
   rw[Iv];simp only[List.length_cons] at h;obtain⟨ha1,ha2⟩:=List.pairwise_cons.1 ha;obtain⟨hb1,hb2⟩:=List.pairwise_cons.1 hb;split
   · rename_i hxy;refine List.pairwise_cons.2 ⟨fun z hz=>?_,H5 n a (y::b) (by simp only[List.length_cons];omega) ha2 hb⟩;rcases (E5 _ a (y::b) (Nat.le_refl _) z).1 hz with h|h
     · exact ha1 z h
     · rcases List.mem_cons.1 h with rfl|h
       · exact hxy
       · have:=hb1 z h;omega
   · split
     · rename_i hxy;refine List.pairwise_cons.2 ⟨fun z hz=>?_,H5 n (x::a) b (by simp only[List.length_cons];omega) ha hb2⟩;rcases (E5 _ (x::a) b (Nat.le_refl _) z).1 hz with h|h
       · rcases List.mem_cons.1 h with rfl|h
         · exact hxy
         · have:=ha1 z h;omega
       · exact hb1 z h
     · obtain rfl:x=y:=by omega
       refine List.pairwise_cons.2 ⟨fun z hz=>?_,H5 n a b (by omega) ha2 hb2⟩;rcases (E5 _ a b (Nat.le_refl _) z).1 hz with h|h
       · exact ha1 z h
       · exact hb1 z h
def DL (a b:List Int):Option (List Int):=if (Ce a b).length≤4 then some (Ce a b) else none
def Lh:List Int→List Int→Bool
 | x::a,y::b=>if x=y then Lh a b else decide (x<y)
 | _,_=>false
def Ds (a b:List Int):Bool:=if a.length=b.length then Lh a b else decide (a.length<b.length)
theorem Vo:∀ {a b:List Int},a.length=b.length→Lh a b=false→Lh b a=false→a=b
 | [],[],_,_,_=>rfl
 | x::a,[],h,_,_=>by simp at h
 | [],y::b,h,_,_=>by simp at h
 | x::a,y::b,h,h1,h2=>by
   unfold Lh at h1 h2;by_cases e:x=y
   · subst e;rw[if_pos rfl] at h1 h2;rw[Vo (by simpa using h) h1 h2]
   · rw[if_neg e] at h1;rw[if_neg (fun h=>e h.symm)] at h2;simp only[decide_eq_false_iff_not] at h1 h2;omega
theorem SW {a b:List Int} (h1:Ds a b=false) (h2:Ds b a=false):a=b:=by
 unfold Ds at h1 h2;by_cases e:a.length=b.length
 · rw[if_pos e] at h1;rw[if_pos e.symm] at h2;exact Vo e h1 h2
 · rw[if_neg e] at h1;rw[if_neg (fun h=>e h.symm)] at h2;simp only[decide_eq_false_iff_not] at h1 h2;omega
theorem PR:∀ {a b c:List Int},a.length=b.length→b.length=c.length→Lh a b=true→Lh b c=true→Lh a c=true
 | [],b,c,_,_,h,_=>by simp[Lh] at h
 | x::a,[],c,h,_,_,_=>by simp at h
 | x::a,y::b,[],_,h,_,_=>by simp at h
 | x::a,y::b,z::c,h1,h2,h3,h4=>by
   unfold Lh at h3 h4 ⊢;by_cases e1:x=y
   · subst e1;rw[if_pos rfl] at h3;by_cases e2:x=z
     · rw[if_pos e2] at h4 ⊢;exact PR (by simpa using h1) (by simpa using h2) h3 h4
     · rw[if_neg e2] at h4 ⊢;exact h4
   · rw[if_neg e1] at h3;by_cases e2:y=z
     · subst e2;rw[if_neg e1];exact h3
     · rw[if_neg e2] at h4;simp only[decide_eq_true_eq] at h3 h4;rw[if_neg (by omega)];simp only[decide_eq_true_eq];omega
theorem Ng {a b:List Int} (h:Ds a b=true):a.length≤b.length:=by
 unfold Ds at h;split at h
 · omega
 · simp only[decide_eq_true_eq] at h;omega
theorem VM {a b c:List Int} (h1:Ds a b=true) (h2:Ds b c=true):Ds a c=true:=by
 have l1:=Ng h1;have l2:=Ng h2;unfold Ds at h1 h2 ⊢;by_cases e1:a.length=b.length
 · rw[if_pos e1] at h1;by_cases e2:b.length=c.length
   · rw[if_pos e2] at h2;rw[if_pos (by omega)];exact PR e1 e2 h1 h2
   · rw[if_neg (by omega)];simp only[decide_eq_true_eq];omega
 · rw[if_neg e1] at h1;simp only[decide_eq_true_eq] at h1;rw[if_neg (by omega)];simp only[decide_eq_true_eq];omega
abbrev EU:=List (List Int)
def GM:EU→List Int→EU
 | [],c=>[c]
 | u::l,c=>if Ds u c=true then u::GM l c else if u=c then u::l else c::u::l
def Ou (l:EU):Prop:=l.Pairwise (fun a b=>Ds a b=true)
theorem LC:∀ {l:EU} {c:List Int},Ou l→Ou (GM l c)∧(∀ z,z∈GM l c↔z=c∨z∈l)∧(GM l c).length≤l.length+1
 | [],c,_=>⟨by simp[GM,Ou],by simp[GM],by simp[GM]⟩
 | u::l,c,h=>by
   obtain⟨h1,h2⟩:=List.pairwise_cons.1 h;obtain⟨i1,i2,i3⟩:=LC (c:=c) h2;unfold GM;split
   · rename_i hu;refine⟨List.pairwise_cons.2 ⟨fun z hz=>?_,i1⟩,fun z=>?_,by simp;omega⟩
     · rcases (i2 z).1 hz with rfl|hz
       · exact hu
       · exact h1 z hz
     · simp only[List.mem_cons,i2];constructor
       · rintro (h|h|h)<;>simp[h]
       · rintro (h|h|h)<;>simp[h]
   · split
     · rename_i h3 h4;subst h4;exact⟨h,fun z=>by simp,by simp⟩
     · rename_i h3 h4
       have hcu:Ds c u=true:=by
        cases e:Ds c u with
        | true=>rfl
        | false=>exact absurd (SW (by simpa using h3) e) h4
       refine⟨List.pairwise_cons.2 ⟨fun z hz=>?_,h⟩,fun z=>by simp,by simp⟩;rcases List.mem_cons.1 hz with rfl|hz
       · exact hcu
       · exact VM hcu (h1 z hz)
def R4 (l:EU) (o:Option (List Int)):EU:=match o with|some c=>GM l c|none=>l
def LP (x:List Int) (b:EU) (l:EU):EU:=b.foldl (fun l y=>R4 l (DL x y)) l
def To (a b:EU):EU:=a.foldl (fun l x=>LP x b l) []
def KQ (v u:List Int):Bool:=v.all fun z=>decide (z∈u)
def Vr (v u:List Int):Bool:=decide (v.length<u.length)&&KQ v u
def Hq (l:EU) (u:List Int):Bool:=l.all fun v=>!Vr v u
def HT (a b:EU):EU:=((To a b).filter (Hq (To a b))).take 7
structure Og (P:List Int→Prop) (l:EU):Prop where
 sort:Ou l
 all:∀ z∈l,P z
theorem dY {P:List Int→Prop} {l:EU} {o:Option (List Int)} (h:Og P l) (ho:∀ c,o=some c→P c):Og P (R4 l o)∧(R4 l o).length≤l.length+1:=by
 cases o with
 | none=>exact⟨h,by simp[R4]⟩
 | some c =>
   obtain⟨a,b,d⟩:=LC (c:=c) h.sort;exact⟨⟨a,fun z hz=>by rcases (b z).1 hz with rfl|hz;exact ho z rfl;exact h.all z hz⟩,d⟩
theorem NF {P:List Int→Prop} {x:List Int}:∀ (b:EU) {l:EU},Og P l→(∀ y∈b,∀ c,DL x y=some c→P c)→Og P (LP x b l)∧(LP x b l).length≤l.length+b.length
 | [],l,h,_=>⟨h,by simp[LP]⟩
 | y::b,l,h,hb=>by
   obtain⟨a1,a2⟩:=dY h (hb y (by simp));obtain⟨b1,b2⟩:=NF b a1 fun z hz=>hb z (by simp[hz]);have e:LP x (y::b) l=LP x b (R4 l (DL x y)):=rfl;rw[e];exact⟨b1,by simp only[List.length_cons];omega⟩
theorem IH {P:List Int→Prop} {b:EU}:∀ (a:EU) {l:EU},Og P l→(∀ x∈a,∀ y∈b,∀ c,DL x y=some c→P c)→Og P (a.foldl (fun l x=>LP x b l) l)∧(a.foldl (fun l x=>LP x b l) l).length≤l.length+a.length*b.length
 | [],l,h,_=>⟨h,by simp⟩
 | x::a,l,h,ha=>by
   obtain⟨a1,a2⟩:=NF b h (ha x (by simp));obtain⟨b1,b2⟩:=IH a a1 fun z hz=>ha z (by simp[hz]);rw[List.foldl_cons];refine⟨b1,?_⟩;simp only[List.length_cons,Nat.add_mul,Nat.one_mul];omega
theorem Tb {l:EU} (hs:Ou l) {i:Nat} {u:List Int} (hi:l[i]? = some u):Hq l u=Hq (l.take i) u:=by
 have hil:=(BZ.1 hi).1
 have hd:∀ v∈l.drop i,Vr v u=false:=fun v hv=>by
  obtain⟨j,hj⟩:=List.mem_iff_getElem?.1 hv;rw[CK] at hj;unfold Vr;by_cases h0:j=0
  · subst h0;rw[Nat.add_zero,hi] at hj;injection hj with hj;subst hj;simp
  · have hlt:=(BZ.1 hj).1;have:=List.pairwise_iff_getElem.1 hs i (i+j) hil hlt (by omega);rw[(BZ.1 hi).2,(BZ.1 hj).2] at this;have:=Ng this;rw[BH (by omega)];rfl
 unfold Hq
 conv=>lhs;rw[←List.take_append_drop i l]
 rw[List.all_append];have:(l.drop i).all (fun v=>!Vr v u)=true:=Gy.2 fun v hv=>by rw[hd v hv];rfl
 rw[this,Bool.and_true]
def Qo (F:Nat) (ka kb:Nat→Nat) (all:List EU) (k:Nat):EU:=(if F≤k then HT ((all[ka k]?).getD []) ((all[kb k]?).getD []) else [])++[[(k:Int)]]
def HH (F:Nat) (ka kb:Nat→Nat):Nat→List EU
 | 0=>[[[]]]
 | k+1=>HH F ka kb k++[Qo F ka kb (HH F ka kb k) (k+1)]
theorem EX {F:Nat} {ka kb:Nat→Nat}:∀ k,(HH F ka kb k).length=k+1
 | 0=>rfl
 | k+1=>by simp[HH,EX k]
theorem Ta {F:Nat} {ka kb:Nat→Nat} {i:Nat}:∀ {j:Nat},i≤j→(HH F ka kb j)[i]? = (HH F ka kb i)[i]?
 | 0,h=>by obtain rfl:i=0:=by omega
           rfl
 | j+1,h=>by
   by_cases e:i=j+1
   · subst e;rfl
   · rw[←Ta (show i≤j by omega)];show (HH F ka kb j++_)[i]? = _;rw[D4 (by rw[EX];omega)]
theorem NH {a b:EU}:(HT a b).length≤7:=by unfold HT;simp;omega
theorem jG {F:Nat} {ka kb:Nat→Nat} {all:List EU} {k:Nat}:(Qo F ka kb all k).length≤8:=by
 unfold Qo;have:=NH (a:=(all[ka k]?).getD []) (b:=(all[kb k]?).getD []);split<;>simp<;>omega
def RowP (m:Nat) (c:List Int):Prop:=MT c∧c.length≤4∧∀ z∈c,0≤z∧z≤m
theorem RowP.mono {m n:Nat} {c:List Int} (h:RowP m c) (hmn:m≤n):RowP n c:=⟨h.1,h.2.1,fun z hz=>by have:=h.2.2 z hz;omega⟩
theorem Jo {m:Nat} {x y c:List Int} (hx:RowP m x) (hy:RowP m y) (h:DL x y=some c):RowP m c:=by
 unfold DL at h;split at h
 · rename_i hl;injection h with h;subst h;refine⟨H5 _ x y (Nat.le_refl _) hx.1 hy.1,hl,fun z hz=>?_⟩;rcases (E5 _ x y (Nat.le_refl _) z).1 hz with h|h
   · exact hx.2.2 z h
   · exact hy.2.2 z h
 · cases h
theorem fU {m:Nat} {a b:EU} (ha:∀ x∈a,RowP m x) (hb:∀ y∈b,RowP m y):∀ z∈HT a b,RowP m z:=fun z hz=>by
 have:=(IH (P:=RowP m) (b:=b) a (l:=[]) ⟨List.Pairwise.nil,by simp⟩ fun x hx y hy c hc=>Jo (ha x hx) (hb y hy) hc).1;exact this.all z (Mb.1 (List.mem_of_mem_take hz)).1
theorem Q7 {F N:Nat} {ka kb:Nat→Nat} (hk:∀ p,F≤p→p<N→ka p<p∧kb p<p):∀ (k:Nat),k<N→∀ (i:Nat) (l:EU),(HH F ka kb k)[i]? = some l→l.length≤8∧∀ c∈l,RowP i c
 | 0,_,i,l,h=>by
   have hi:=(BZ.1 h).1;simp[HH] at hi;subst hi;simp[HH] at h;subst h;exact⟨by simp,fun c hc=>by simp at hc;subst hc;exact⟨by simp[MT],by simp,by simp⟩⟩
 | k+1,hkN,i,l,h=>by
   have ih:=Q7 hk k (by omega);have hi:=(BZ.1 h).1;rw[EX] at hi;by_cases e:i=k+1
   · subst e;unfold HH at h;rw[ER (by rw[EX];exact Nat.le_refl _),EX,Nat.sub_self] at h;simp at h;subst h;refine⟨jG,fun c hc=>?_⟩;unfold Qo at hc;rcases CO.1 hc with hc|hc
     · split at hc
       · rename_i hF;obtain⟨h1,h2⟩:=hk (k+1) hF hkN
         have g:∀ q,q<k+1→∀ x∈((HH F ka kb k)[q]?).getD [],RowP k x:=fun q hq x hx=>by
          have:(HH F ka kb k)[q]? = some ((HH F ka kb k)[q]'(by rw[EX];omega)):=A1 _;rw[this] at hx;exact ((ih q _ this).2 x hx).mono (by omega)
         exact (fU (g _ h1) (g _ h2) c hc).mono (by omega)
       · simp at hc
     · rw[HE.1 hc];exact⟨by simp[MT],by simp,fun z hz=>by simp at hz;omega⟩
   · have:(HH F ka kb k)[i]? = some l:=by
      rw[←h];show _=(HH F ka kb k++_)[i]?;rw[D4 (by rw[EX];omega)]
     exact ih i l this
end Go.Proofs.YtnjedabjbeipeaaGreat
