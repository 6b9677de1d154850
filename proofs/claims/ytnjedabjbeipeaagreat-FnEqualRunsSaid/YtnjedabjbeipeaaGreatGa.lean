/-
  Selections of cuts, as plain data: unions of ascending lists, an order of lists, candidates in order without those that contain lesser ones. Plain lemmas, about no function of the program.
  Conditions: those typed in each theorem.
-/
import Derived.Test.YtnjedabjbeipeaaGreatNh
namespace Go.Proofs.YtnjedabjbeipeaaGreat
set_option linter.unusedSimpArgs false
set_option linter.unusedVariables false
set_option maxRecDepth 100000
set_option maxHeartbeats 10000000
def Cc:List Int→List Int→List Int
 | [],b=>b
 | a,[]=>a
 | x::a,y::b=>if x<y then x::Cc a (y::b) else if y<x then y::Cc (x::a) b else x::Cc a b
termination_by a b=>a.length+b.length
theorem Gr {a:List Int}:Cc a []=a:=by cases a<;>simp[Cc]
theorem GS {b:List Int}:Cc [] b=b:=by simp[Cc]
theorem H3 {x y:Int} {a b:List Int}:Cc (x::a) (y::b)=if x<y then x::Cc a (y::b) else if y<x then y::Cc (x::a) b else x::Cc a b:=by rw[Cc]
theorem Gk:∀ (n:Nat) (a b:List Int),a.length+b.length≤n→(Cc a b).length≤a.length+b.length∧a.length≤(Cc a b).length∧b.length≤(Cc a b).length
 | n,[],b,_=>by rw[GS];simp
 | n,x::a,[],_=>by rw[Gr];simp
 | 0,x::a,y::b,h=>by simp at h
 | n+1,x::a,y::b,h=>by
   rw[H3];simp only[List.length_cons] at h ⊢;split
   · have:=Gk n a (y::b) (by simp only[List.length_cons];omega);simp only[List.length_cons] at this ⊢;omega
   · split
     · have:=Gk n (x::a) b (by simp only[List.length_cons];omega);simp only[List.length_cons] at this ⊢;omega
     · have:=Gk n a b (by omega);simp only[List.length_cons];omega
theorem ES:∀ (n:Nat) (a b:List Int),a.length+b.length≤n→∀ z,(z∈Cc a b↔z∈a∨z∈b)
 | n,[],b,_,z=>by rw[GS];simp
 | n,x::a,[],_,z=>by rw[Gr];simp
 | 0,x::a,y::b,h,z=>by simp at h
 | n+1,x::a,y::b,h,z=>by
   rw[H3];simp only[List.length_cons] at h;split
   · simp only[List.mem_cons,ES n a (y::b) (by simp only[List.length_cons];omega) z];constructor
     · rintro (h|h|h|h)<;>simp[h]
     · rintro ((h|h)|h|h)<;>simp[h]
   · split
     · simp only[List.mem_cons,ES n (x::a) b (by simp only[List.length_cons];omega) z];constructor
       · rintro (h|(h|h)|h)<;>simp[h]
       · rintro ((h|h)|h|h)<;>simp[h]
     · obtain rfl:x=y:=by omega
       simp only[List.mem_cons,ES n a b (by omega) z];constructor
       · rintro (h|h|h)<;>simp[h]
       · rintro ((h|h)|h|h)<;>simp[h]
def Mm (a:List Int):Prop:=a.Pairwise (·<·)
theorem Hp:∀ (n:Nat) (a b:List Int),a.length+b.length≤n→Mm a→Mm b→Mm (Cc a b)
 | n,[],b,_,_,hb=>by rw[GS];exact hb
 | n,x::a,[],_,ha,_=>by rw[Gr];exact ha
 | 0,x::a,y::b,h,_,_=>by simp at h
 | n+1,x::a,y::b,h,ha,hb=>by
   rw[H3];simp only[List.length_cons] at h;obtain⟨ha1,ha2⟩:=List.pairwise_cons.1 ha;obtain⟨hb1,hb2⟩:=List.pairwise_cons.1 hb;split
   · rename_i hxy;refine List.pairwise_cons.2 ⟨fun z hz=>?_,Hp n a (y::b) (by simp only[List.length_cons];omega) ha2 hb⟩;rcases (ES _ a (y::b) (Nat.le_refl _) z).1 hz with h|h
     · exact ha1 z h
     · rcases List.mem_cons.1 h with rfl|h
       · exact hxy
       · have:=hb1 z h;omega
   · split
     · rename_i hxy;refine List.pairwise_cons.2 ⟨fun z hz=>?_,Hp n (x::a) b (by simp only[List.length_cons];omega) ha hb2⟩;rcases (ES _ (x::a) b (Nat.le_refl _) z).1 hz with h|h
       · rcases List.mem_cons.1 h with rfl|h
         · exact hxy
         · have:=ha1 z h;omega
       · exact hb1 z h
     · obtain rfl:x=y:=by omega
       refine List.pairwise_cons.2 ⟨fun z hz=>?_,Hp n a b (by omega) ha2 hb2⟩;rcases (ES _ a b (Nat.le_refl _) z).1 hz with h|h
       · exact ha1 z h
       · exact hb1 z h
def Dz (a b:List Int):Option (List Int):=if (Cc a b).length≤4 then some (Cc a b) else none
def KM:List Int→List Int→Bool
 | x::a,y::b=>if x=y then KM a b else decide (x<y)
 | _,_=>false
def Dk (a b:List Int):Bool:=if a.length=b.length then KM a b else decide (a.length<b.length)
theorem Vn:∀ {a b:List Int},a.length=b.length→KM a b=false→KM b a=false→a=b
 | [],[],_,_,_=>rfl
 | x::a,[],h,_,_=>by simp at h
 | [],y::b,h,_,_=>by simp at h
 | x::a,y::b,h,h1,h2=>by
   unfold KM at h1 h2;by_cases e:x=y
   · subst e;rw[if_pos rfl] at h1 h2;rw[Vn (by simpa using h) h1 h2]
   · rw[if_neg e] at h1;rw[if_neg (fun h=>e h.symm)] at h2;simp only[decide_eq_false_iff_not] at h1 h2;omega
theorem RN {a b:List Int} (h1:Dk a b=false) (h2:Dk b a=false):a=b:=by
 unfold Dk at h1 h2;by_cases e:a.length=b.length
 · rw[if_pos e] at h1;rw[if_pos e.symm] at h2;exact Vn e h1 h2
 · rw[if_neg e] at h1;rw[if_neg (fun h=>e h.symm)] at h2;simp only[decide_eq_false_iff_not] at h1 h2;omega
theorem Qu:∀ {a b c:List Int},a.length=b.length→b.length=c.length→KM a b=true→KM b c=true→KM a c=true
 | [],b,c,_,_,h,_=>by simp[KM] at h
 | x::a,[],c,h,_,_,_=>by simp at h
 | x::a,y::b,[],_,h,_,_=>by simp at h
 | x::a,y::b,z::c,h1,h2,h3,h4=>by
   unfold KM at h3 h4 ⊢;by_cases e1:x=y
   · subst e1;rw[if_pos rfl] at h3;by_cases e2:x=z
     · rw[if_pos e2] at h4 ⊢;exact Qu (by simpa using h1) (by simpa using h2) h3 h4
     · rw[if_neg e2] at h4 ⊢;exact h4
   · rw[if_neg e1] at h3;by_cases e2:y=z
     · subst e2;rw[if_neg e1];exact h3
     · rw[if_neg e2] at h4;simp only[decide_eq_true_eq] at h3 h4;rw[if_neg (by omega)];simp only[decide_eq_true_eq];omega
theorem Nx {a b:List Int} (h:Dk a b=true):a.length≤b.length:=by
 unfold Dk at h;split at h
 · omega
 · simp only[decide_eq_true_eq] at h;omega
theorem Vw {a b c:List Int} (h1:Dk a b=true) (h2:Dk b c=true):Dk a c=true:=by
 have l1:=Nx h1;have l2:=Nx h2;unfold Dk at h1 h2 ⊢;by_cases e1:a.length=b.length
 · rw[if_pos e1] at h1;by_cases e2:b.length=c.length
   · rw[if_pos e2] at h2;rw[if_pos (by omega)];exact Qu e1 e2 h1 h2
   · rw[if_neg (by omega)];simp only[decide_eq_true_eq];omega
 · rw[if_neg e1] at h1;simp only[decide_eq_true_eq] at h1;rw[if_neg (by omega)];simp only[decide_eq_true_eq];omega
abbrev EI:=List (List Int)
def Gm:EI→List Int→EI
 | [],c=>[c]
 | u::l,c=>if Dk u c=true then u::Gm l c else if u=c then u::l else c::u::l
def NP (l:EI):Prop:=l.Pairwise (fun a b=>Dk a b=true)
theorem La:∀ {l:EI} {c:List Int},NP l→NP (Gm l c)∧(∀ z,z∈Gm l c↔z=c∨z∈l)∧(Gm l c).length≤l.length+1
 | [],c,_=>⟨by simp[Gm,NP],by simp[Gm],by simp[Gm]⟩
 | u::l,c,h=>by
   obtain⟨h1,h2⟩:=List.pairwise_cons.1 h;obtain⟨i1,i2,i3⟩:=La (c:=c) h2;unfold Gm;split
   · rename_i hu;refine⟨List.pairwise_cons.2 ⟨fun z hz=>?_,i1⟩,fun z=>?_,by simp;omega⟩
     · rcases (i2 z).1 hz with rfl|hz
       · exact hu
       · exact h1 z hz
     · simp only[List.mem_cons,i2];constructor
       · rintro (h|h|h)<;>simp[h]
       · rintro (h|h|h)<;>simp[h]
   · split
     · rename_i h3 h4;subst h4;exact⟨h,fun z=>by simp,by simp⟩
     · rename_i h3 h4
       have hcu:Dk c u=true:=by
        cases e:Dk c u with
        | true=>rfl
        | false=>exact absurd (RN (by simpa using h3) e) h4
       refine⟨List.pairwise_cons.2 ⟨fun z hz=>?_,h⟩,fun z=>by simp,by simp⟩;rcases List.mem_cons.1 hz with rfl|hz
       · exact hcu
       · exact Vw hcu (h1 z hz)
def Rj (l:EI) (o:Option (List Int)):EI:=match o with|some c=>Gm l c|none=>l
def Ll (x:List Int) (b:EI) (l:EI):EI:=b.foldl (fun l y=>Rj l (Dz x y)) l
def RD (a b:EI):EI:=a.foldl (fun l x=>Ll x b l) []
def KK (v u:List Int):Bool:=v.all fun z=>decide (z∈u)
def WA (v u:List Int):Bool:=decide (v.length<u.length)&&KK v u
def G1 (l:EI) (u:List Int):Bool:=l.all fun v=>!WA v u
def Hu (a b:EI):EI:=((RD a b).filter (G1 (RD a b))).take 7
structure NN (P:List Int→Prop) (l:EI):Prop where
 sort:NP l
 all:∀ z∈l,P z
theorem aP {P:List Int→Prop} {l:EI} {o:Option (List Int)} (h:NN P l) (ho:∀ c,o=some c→P c):NN P (Rj l o)∧(Rj l o).length≤l.length+1:=by
 cases o with
 | none=>exact⟨h,by simp[Rj]⟩
 | some c =>
   obtain⟨a,b,d⟩:=La (c:=c) h.sort;exact⟨⟨a,fun z hz=>by rcases (b z).1 hz with rfl|hz;exact ho z rfl;exact h.all z hz⟩,d⟩
theorem MK {P:List Int→Prop} {x:List Int}:∀ (b:EI) {l:EI},NN P l→(∀ y∈b,∀ c,Dz x y=some c→P c)→NN P (Ll x b l)∧(Ll x b l).length≤l.length+b.length
 | [],l,h,_=>⟨h,by simp[Ll]⟩
 | y::b,l,h,hb=>by
   obtain⟨a1,a2⟩:=aP h (hb y (by simp));obtain⟨b1,b2⟩:=MK b a1 fun z hz=>hb z (by simp[hz]);have e:Ll x (y::b) l=Ll x b (Rj l (Dz x y)):=rfl;rw[e];exact⟨b1,by simp only[List.length_cons];omega⟩
theorem Ig {P:List Int→Prop} {b:EI}:∀ (a:EI) {l:EI},NN P l→(∀ x∈a,∀ y∈b,∀ c,Dz x y=some c→P c)→NN P (a.foldl (fun l x=>Ll x b l) l)∧(a.foldl (fun l x=>Ll x b l) l).length≤l.length+a.length*b.length
 | [],l,h,_=>⟨h,by simp⟩
 | x::a,l,h,ha=>by
   obtain⟨a1,a2⟩:=MK b h (ha x (by simp));obtain⟨b1,b2⟩:=Ig a a1 fun z hz=>ha z (by simp[hz]);rw[List.foldl_cons];refine⟨b1,?_⟩;simp only[List.length_cons,Nat.add_mul,Nat.one_mul];omega
theorem SX {l:EI} (hs:NP l) {i:Nat} {u:List Int} (hi:l[i]? = some u):G1 l u=G1 (l.take i) u:=by
 have hil:=(zz1.1 hi).1
 have hd:∀ v∈l.drop i,WA v u=false:=fun v hv=>by
  obtain⟨j,hj⟩:=List.mem_iff_getElem?.1 hv;rw[ABn] at hj;unfold WA;by_cases h0:j=0
  · subst h0;rw[Nat.add_zero,hi] at hj;injection hj with hj;subst hj;simp
  · have hlt:=(zz1.1 hj).1;have:=List.pairwise_iff_getElem.1 hs i (i+j) hil hlt (by omega);rw[(zz1.1 hi).2,(zz1.1 hj).2] at this;have:=Nx this;rw[zz3 (by omega)];rfl
 unfold G1
 conv=>lhs;rw[←List.take_append_drop i l]
 rw[List.all_append];have:(l.drop i).all (fun v=>!WA v u)=true:=zz8.2 fun v hv=>by rw[hd v hv];rfl
 rw[this,Bool.and_true]
def PX (F:Nat) (ka kb:Nat→Nat) (all:List EI) (k:Nat):EI:=(if F≤k then Hu ((all[ka k]?).getD []) ((all[kb k]?).getD []) else [])++[[(k:Int)]]
def Hc (F:Nat) (ka kb:Nat→Nat):Nat→List EI
 | 0=>[[[]]]
 | k+1=>Hc F ka kb k++[PX F ka kb (Hc F ka kb k) (k+1)]
theorem EX {F:Nat} {ka kb:Nat→Nat}:∀ k,(Hc F ka kb k).length=k+1
 | 0=>rfl
 | k+1=>by simp[Hc,EX k]
theorem RU {F:Nat} {ka kb:Nat→Nat} {i:Nat}:∀ {j:Nat},i≤j→(Hc F ka kb j)[i]? = (Hc F ka kb i)[i]?
 | 0,h=>by obtain rfl:i=0:=by omega
           rfl
 | j+1,h=>by
   by_cases e:i=j+1
   · subst e;rfl
   · rw[←RU (show i≤j by omega)];show (Hc F ka kb j++_)[i]? = _;rw[zz4 (by rw[EX];omega)]
theorem Nz {a b:EI}:(Hu a b).length≤7:=by unfold Hu;simp;omega
theorem gE {F:Nat} {ka kb:Nat→Nat} {all:List EI} {k:Nat}:(PX F ka kb all k).length≤8:=by
 unfold PX;have:=Nz (a:=(all[ka k]?).getD []) (b:=(all[kb k]?).getD []);split<;>simp<;>omega
def RowP (m:Nat) (c:List Int):Prop:=Mm c∧c.length≤4∧∀ z∈c,0≤z∧z≤m
theorem RowP.mono {m n:Nat} {c:List Int} (h:RowP m c) (hmn:m≤n):RowP n c:=⟨h.1,h.2.1,fun z hz=>by have:=h.2.2 z hz;omega⟩
theorem IP {m:Nat} {x y c:List Int} (hx:RowP m x) (hy:RowP m y) (h:Dz x y=some c):RowP m c:=by
 unfold Dz at h;split at h
 · rename_i hl;injection h with h;subst h;refine⟨Hp _ x y (Nat.le_refl _) hx.1 hy.1,hl,fun z hz=>?_⟩;rcases (ES _ x y (Nat.le_refl _) z).1 hz with h|h
   · exact hx.2.2 z h
   · exact hy.2.2 z h
 · cases h
theorem jP {m:Nat} {a b:EI} (ha:∀ x∈a,RowP m x) (hb:∀ y∈b,RowP m y):∀ z∈Hu a b,RowP m z:=fun z hz=>by
 have:=(Ig (P:=RowP m) (b:=b) a (l:=[]) ⟨List.Pairwise.nil,by simp⟩ fun x hx y hy c hc=>IP (ha x hx) (hb y hy) hc).1;exact this.all z (ABx.1 (List.mem_of_mem_take hz)).1
theorem QT {F N:Nat} {ka kb:Nat→Nat} (hk:∀ p,F≤p→p<N→ka p<p∧kb p<p):∀ (k:Nat),k<N→∀ (i:Nat) (l:EI),(Hc F ka kb k)[i]? = some l→l.length≤8∧∀ c∈l,RowP i c
 | 0,_,i,l,h=>by
   have hi:=(zz1.1 h).1;simp[Hc] at hi;subst hi;simp[Hc] at h;subst h;exact⟨by simp,fun c hc=>by simp at hc;subst hc;exact⟨by simp[Mm],by simp,by simp⟩⟩
 | k+1,hkN,i,l,h=>by
   have ih:=QT hk k (by omega);have hi:=(zz1.1 h).1;rw[EX] at hi;by_cases e:i=k+1
   · subst e;unfold Hc at h;rw[zz5 (by rw[EX];exact Nat.le_refl _),EX,Nat.sub_self] at h;simp at h;subst h;refine⟨gE,fun c hc=>?_⟩;unfold PX at hc;rcases ACB.1 hc with hc|hc
     · split at hc
       · rename_i hF;obtain⟨h1,h2⟩:=hk (k+1) hF hkN
         have g:∀ q,q<k+1→∀ x∈((Hc F ka kb k)[q]?).getD [],RowP k x:=fun q hq x hx=>by
          have:(Hc F ka kb k)[q]? = some ((Hc F ka kb k)[q]'(by rw[EX];omega)):=zz0 _;rw[this] at hx;exact ((ih q _ this).2 x hx).mono (by omega)
         exact (jP (g _ h1) (g _ h2) c hc).mono (by omega)
       · simp at hc
     · rw[zz9.1 hc];exact⟨by simp[Mm],by simp,fun z hz=>by simp at hz;omega⟩
   · have:(Hc F ka kb k)[i]? = some l:=by
      rw[←h];show _=(Hc F ka kb k++_)[i]?;rw[zz4 (by rw[EX];omega)]
     exact ih i l this
end Go.Proofs.YtnjedabjbeipeaaGreat
