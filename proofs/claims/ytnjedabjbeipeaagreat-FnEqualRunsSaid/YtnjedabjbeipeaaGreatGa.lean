/-
  Selections of cuts, as plain data: unions of ascending lists, an order of lists, candidates in order without those that contain lesser Ii. Plain lemmas, about no function of the program.
  Conditions: those typed in each theorem.
-/
import Derived.Test.YtnjedabjbeipeaaGreatNh
namespace Go.Proofs.YtnjedabjbeipeaaGreat
set_option linter.unusedSimpArgs false
set_option linter.unusedVariables false
set_option maxRecDepth 100000
set_option maxHeartbeats 10000000
def Cf:List Int→List Int→List Int
 | [],b=>b
 | a,[]=>a
 | x::a,y::b=>if x<y then x::Cf a (y::b) else if y<x then y::Cf (x::a) b else x::Cf a b
termination_by a b=>a.length+b.length
theorem GS {a:List Int}:Cf a []=a:=by cases a<;>simp[Cf]
theorem G1 {b:List Int}:Cf [] b=b:=by simp[Cf]
theorem Ij {x y:Int} {a b:List Int}:Cf (x::a) (y::b)=if x<y then x::Cf a (y::b) else if y<x then y::Cf (x::a) b else x::Cf a b:=by rw[Cf]
theorem GM:∀ (n:Nat) (a b:List Int),a.length+b.length≤n→(Cf a b).length≤a.length+b.length∧a.length≤(Cf a b).length∧b.length≤(Cf a b).length
 | n,[],b,_=>by rw[G1];simp
 | n,x::a,[],_=>by rw[GS];simp
 | 0,x::a,y::b,h=>by simp at h
 | n+1,x::a,y::b,h=>by
   rw[Ij];simp only[List.length_cons] at h ⊢;split
   · have:=GM n a (y::b) (by simp only[List.length_cons];omega);simp only[List.length_cons] at this ⊢;omega
   · split
     · have:=GM n (x::a) b (by simp only[List.length_cons];omega);simp only[List.length_cons] at this ⊢;omega
     · have:=GM n a b (by omega);simp only[List.length_cons];omega
theorem E8:∀ (n:Nat) (a b:List Int),a.length+b.length≤n→∀ z,(z∈Cf a b↔z∈a∨z∈b)
 | n,[],b,_,z=>by rw[G1];simp
 | n,x::a,[],_,z=>by rw[GS];simp
 | 0,x::a,y::b,h,z=>by simp at h
 | n+1,x::a,y::b,h,z=>by
   rw[Ij];simp only[List.length_cons] at h;split
   · simp only[List.mem_cons,E8 n a (y::b) (by simp only[List.length_cons];omega) z];constructor
     · rintro (h|h|h|h)<;>simp[h]
     · rintro ((h|h)|h|h)<;>simp[h]
   · split
     · simp only[List.mem_cons,E8 n (x::a) b (by simp only[List.length_cons];omega) z];constructor
       · rintro (h|(h|h)|h)<;>simp[h]
       · rintro ((h|h)|h|h)<;>simp[h]
     · obtain rfl:x=y:=by omega
       simp only[List.mem_cons,E8 n a b (by omega) z];constructor
       · rintro (h|h|h)<;>simp[h]
       · rintro ((h|h)|h|h)<;>simp[h]
def MM (a:List Int):Prop:=a.Pairwise (·<·)
theorem HV:∀ (n:Nat) (a b:List Int),a.length+b.length≤n→MM a→MM b→MM (Cf a b)
 | n,[],b,_,_,hb=>by rw[G1];exact hb
 | n,x::a,[],_,ha,_=>by rw[GS];exact ha
 | 0,x::a,y::b,h,_,_=>by simp at h
 | n+1,x::a,y::b,h,ha,hb=>by
   rw[Ij];simp only[List.length_cons] at h;obtain⟨ha1,ha2⟩:=List.pairwise_cons.1 ha;obtain⟨hb1,hb2⟩:=List.pairwise_cons.1 hb;split
   · rename_i hxy;refine List.pairwise_cons.2 ⟨fun z hz=>?_,HV n a (y::b) (by simp only[List.length_cons];omega) ha2 hb⟩;rcases (E8 _ a (y::b) (Nat.le_refl _) z).1 hz with h|h
     · exact ha1 z h
     · rcases List.mem_cons.1 h with rfl|h
       · exact hxy
       · have:=hb1 z h;omega
   · split
     · rename_i hxy;refine List.pairwise_cons.2 ⟨fun z hz=>?_,HV n (x::a) b (by simp only[List.length_cons];omega) ha hb2⟩;rcases (E8 _ (x::a) b (Nat.le_refl _) z).1 hz with h|h
       · rcases List.mem_cons.1 h with rfl|h
         · exact hxy
         · have:=ha1 z h;omega
       · exact hb1 z h
     · obtain rfl:x=y:=by omega
       refine List.pairwise_cons.2 ⟨fun z hz=>?_,HV n a b (by omega) ha2 hb2⟩;rcases (E8 _ a b (Nat.le_refl _) z).1 hz with h|h
       · exact ha1 z h
       · exact hb1 z h
def DM (a b:List Int):Option (List Int):=if (Cf a b).length≤4 then some (Cf a b) else none
def Lg:List Int→List Int→Bool
 | x::a,y::b=>if x=y then Lg a b else decide (x<y)
 | _,_=>false
def Dt (a b:List Int):Bool:=if a.length=b.length then Lg a b else decide (a.length<b.length)
theorem V3:∀ {a b:List Int},a.length=b.length→Lg a b=false→Lg b a=false→a=b
 | [],[],_,_,_=>rfl
 | x::a,[],h,_,_=>by simp at h
 | [],y::b,h,_,_=>by simp at h
 | x::a,y::b,h,h1,h2=>by
   unfold Lg at h1 h2;by_cases e:x=y
   · subst e;rw[if_pos rfl] at h1 h2;rw[V3 (by simpa using h) h1 h2]
   · rw[if_neg e] at h1;rw[if_neg (fun h=>e h.symm)] at h2;simp only[decide_eq_false_iff_not] at h1 h2;omega
theorem ST {a b:List Int} (h1:Dt a b=false) (h2:Dt b a=false):a=b:=by
 unfold Dt at h1 h2;by_cases e:a.length=b.length
 · rw[if_pos e] at h1;rw[if_pos e.symm] at h2;exact V3 e h1 h2
 · rw[if_neg e] at h1;rw[if_neg (fun h=>e h.symm)] at h2;simp only[decide_eq_false_iff_not] at h1 h2;omega
theorem Rm:∀ {a b c:List Int},a.length=b.length→b.length=c.length→Lg a b=true→Lg b c=true→Lg a c=true
 | [],b,c,_,_,h,_=>by simp[Lg] at h
 | x::a,[],c,h,_,_,_=>by simp at h
 | x::a,y::b,[],_,h,_,_=>by simp at h
 | x::a,y::b,z::c,h1,h2,h3,h4=>by
   unfold Lg at h3 h4 ⊢;by_cases e1:x=y
   · subst e1;rw[if_pos rfl] at h3;by_cases e2:x=z
     · rw[if_pos e2] at h4 ⊢;exact Rm (by simpa using h1) (by simpa using h2) h3 h4
     · rw[if_neg e2] at h4 ⊢;exact h4
   · rw[if_neg e1] at h3;by_cases e2:y=z
     · subst e2;rw[if_neg e1];exact h3
     · rw[if_neg e2] at h4;simp only[decide_eq_true_eq] at h3 h4;rw[if_neg (by omega)];simp only[decide_eq_true_eq];omega
theorem NN {a b:List Int} (h:Dt a b=true):a.length≤b.length:=by
 unfold Dt at h;split at h
 · omega
 · simp only[decide_eq_true_eq] at h;omega
theorem VX {a b c:List Int} (h1:Dt a b=true) (h2:Dt b c=true):Dt a c=true:=by
 have l1:=NN h1;have l2:=NN h2;unfold Dt at h1 h2 ⊢;by_cases e1:a.length=b.length
 · rw[if_pos e1] at h1;by_cases e2:b.length=c.length
   · rw[if_pos e2] at h2;rw[if_pos (by omega)];exact Rm e1 e2 h1 h2
   · rw[if_neg (by omega)];simp only[decide_eq_true_eq];omega
 · rw[if_neg e1] at h1;simp only[decide_eq_true_eq] at h1;rw[if_neg (by omega)];simp only[decide_eq_true_eq];omega
abbrev Fc:=List (List Int)
def GO:Fc→List Int→Fc
 | [],c=>[c]
 | u::l,c=>if Dt u c=true then u::GO l c else if u=c then u::l else c::u::l
def OX (l:Fc):Prop:=l.Pairwise (fun a b=>Dt a b=true)
theorem L3:∀ {l:Fc} {c:List Int},OX l→OX (GO l c)∧(∀ z,z∈GO l c↔z=c∨z∈l)∧(GO l c).length≤l.length+1
 | [],c,_=>⟨by simp[GO,OX],by simp[GO],by simp[GO]⟩
 | u::l,c,h=>by
   obtain⟨h1,h2⟩:=List.pairwise_cons.1 h;obtain⟨i1,i2,i3⟩:=L3 (c:=c) h2;unfold GO;split
   · rename_i hu;refine⟨List.pairwise_cons.2 ⟨fun z hz=>?_,i1⟩,fun z=>?_,by simp;omega⟩
     · rcases (i2 z).1 hz with rfl|hz
       · exact hu
       · exact h1 z hz
     · simp only[List.mem_cons,i2];constructor
       · rintro (h|h|h)<;>simp[h]
       · rintro (h|h|h)<;>simp[h]
   · split
     · rename_i h3 h4;subst h4;exact⟨h,fun z=>by simp,by simp⟩
     · rename_i h3 h4
       have hcu:Dt c u=true:=by
        cases e:Dt c u with
        | true=>rfl
        | false=>exact absurd (ST (by simpa using h3) e) h4
       refine⟨List.pairwise_cons.2 ⟨fun z hz=>?_,h⟩,fun z=>by simp,by simp⟩;rcases List.mem_cons.1 hz with rfl|hz
       · exact hcu
       · exact VX hcu (h1 z hz)
def R4 (l:Fc) (o:Option (List Int)):Fc:=match o with|some c=>GO l c|none=>l
def LR (x:List Int) (b:Fc) (l:Fc):Fc:=b.foldl (fun l y=>R4 l (DM x y)) l
def SB (a b:Fc):Fc:=a.foldl (fun l x=>LR x b l) []
def KU (v u:List Int):Bool:=v.all fun z=>decide (z∈u)
def Wh (v u:List Int):Bool:=decide (v.length<u.length)&&KU v u
def Hr (l:Fc) (u:List Int):Bool:=l.all fun v=>!Wh v u
def HX (a b:Fc):Fc:=((SB a b).filter (Hr (SB a b))).take 7
structure OR (P:List Int→Prop) (l:Fc):Prop where
 sort:OX l
 all:∀ z∈l,P z
theorem cK {P:List Int→Prop} {l:Fc} {o:Option (List Int)} (h:OR P l) (ho:∀ c,o=some c→P c):OR P (R4 l o)∧(R4 l o).length≤l.length+1:=by
 cases o with
 | none=>exact⟨h,by simp[R4]⟩
 | some c =>
   obtain⟨a,b,d⟩:=L3 (c:=c) h.sort;exact⟨⟨a,fun z hz=>by rcases (b z).1 hz with rfl|hz;exact ho z rfl;exact h.all z hz⟩,d⟩
theorem N5 {P:List Int→Prop} {x:List Int}:∀ (b:Fc) {l:Fc},OR P l→(∀ y∈b,∀ c,DM x y=some c→P c)→OR P (LR x b l)∧(LR x b l).length≤l.length+b.length
 | [],l,h,_=>⟨h,by simp[LR]⟩
 | y::b,l,h,hb=>by
   obtain⟨a1,a2⟩:=cK h (hb y (by simp));obtain⟨b1,b2⟩:=N5 b a1 fun z hz=>hb z (by simp[hz]);have e:LR x (y::b) l=LR x b (R4 l (DM x y)):=rfl;rw[e];exact⟨b1,by simp only[List.length_cons];omega⟩
theorem I0 {P:List Int→Prop} {b:Fc}:∀ (a:Fc) {l:Fc},OR P l→(∀ x∈a,∀ y∈b,∀ c,DM x y=some c→P c)→OR P (a.foldl (fun l x=>LR x b l) l)∧(a.foldl (fun l x=>LR x b l) l).length≤l.length+a.length*b.length
 | [],l,h,_=>⟨h,by simp⟩
 | x::a,l,h,ha=>by
   obtain⟨a1,a2⟩:=N5 b h (ha x (by simp));obtain⟨b1,b2⟩:=I0 a a1 fun z hz=>ha z (by simp[hz]);rw[List.foldl_cons];refine⟨b1,?_⟩;simp only[List.length_cons,Nat.add_mul,Nat.one_mul];omega
theorem TD {l:Fc} (hs:OX l) {i:Nat} {u:List Int} (hi:l[i]? = some u):Hr l u=Hr (l.take i) u:=by
 have hil:=(BZ.1 hi).1
 have hd:∀ v∈l.drop i,Wh v u=false:=fun v hv=>by
  obtain⟨j,hj⟩:=List.mem_iff_getElem?.1 hv;rw[CL] at hj;unfold Wh;by_cases h0:j=0
  · subst h0;rw[Nat.add_zero,hi] at hj;injection hj with hj;subst hj;simp
  · have hlt:=(BZ.1 hj).1;have:=List.pairwise_iff_getElem.1 hs i (i+j) hil hlt (by omega);rw[(BZ.1 hi).2,(BZ.1 hj).2] at this;have:=NN this;rw[BH (by omega)];rfl
 unfold Hr
 conv=>lhs;rw[←List.take_append_drop i l]
 rw[List.all_append];have:(l.drop i).all (fun v=>!Wh v u)=true:=GA.2 fun v hv=>by rw[hd v hv];rfl
 rw[this,Bool.and_true]
def PG (F:Nat) (ka kb:Nat→Nat) (all:List Fc) (k:Nat):Fc:=(if F≤k then HX ((all[ka k]?).getD []) ((all[kb k]?).getD []) else [])++[[(k:Int)]]
def HB (F:Nat) (ka kb:Nat→Nat):Nat→List Fc
 | 0=>[[[]]]
 | k+1=>HB F ka kb k++[PG F ka kb (HB F ka kb k) (k+1)]
theorem E0 {F:Nat} {ka kb:Nat→Nat}:∀ k,(HB F ka kb k).length=k+1
 | 0=>rfl
 | k+1=>by simp[HB,E0 k]
theorem Tx {F:Nat} {ka kb:Nat→Nat} {i:Nat}:∀ {j:Nat},i≤j→(HB F ka kb j)[i]? = (HB F ka kb i)[i]?
 | 0,h=>by obtain rfl:i=0:=by omega
           rfl
 | j+1,h=>by
   by_cases e:i=j+1
   · subst e;rfl
   · rw[←Tx (show i≤j by omega)];show (HB F ka kb j++_)[i]? = _;rw[DZ (by rw[E0];omega)]
theorem NG {a b:Fc}:(HX a b).length≤7:=by unfold HX;simp;omega
theorem lY {F:Nat} {ka kb:Nat→Nat} {all:List Fc} {k:Nat}:(PG F ka kb all k).length≤8:=by
 unfold PG;have:=NG (a:=(all[ka k]?).getD []) (b:=(all[kb k]?).getD []);split<;>simp<;>omega
def RowP (m:Nat) (c:List Int):Prop:=MM c∧c.length≤4∧∀ z∈c,0≤z∧z≤m
theorem RowP.mono {m n:Nat} {c:List Int} (h:RowP m c) (hmn:m≤n):RowP n c:=⟨h.1,h.2.1,fun z hz=>by have:=h.2.2 z hz;omega⟩
theorem JJ {m:Nat} {x y c:List Int} (hx:RowP m x) (hy:RowP m y) (h:DM x y=some c):RowP m c:=by
 unfold DM at h;split at h
 · rename_i hl;injection h with h;subst h;refine⟨HV _ x y (Nat.le_refl _) hx.1 hy.1,hl,fun z hz=>?_⟩;rcases (E8 _ x y (Nat.le_refl _) z).1 hz with h|h
   · exact hx.2.2 z h
   · exact hy.2.2 z h
 · cases h
theorem iW {m:Nat} {a b:Fc} (ha:∀ x∈a,RowP m x) (hb:∀ y∈b,RowP m y):∀ z∈HX a b,RowP m z:=fun z hz=>by
 have:=(I0 (P:=RowP m) (b:=b) a (l:=[]) ⟨List.Pairwise.nil,by simp⟩ fun x hx y hy c hc=>JJ (ha x hx) (hb y hy) hc).1;exact this.all z (Mb.1 (List.mem_of_mem_take hz)).1
theorem Rj {F N:Nat} {ka kb:Nat→Nat} (hk:∀ p,F≤p→p<N→ka p<p∧kb p<p):∀ (k:Nat),k<N→∀ (i:Nat) (l:Fc),(HB F ka kb k)[i]? = some l→l.length≤8∧∀ c∈l,RowP i c
 | 0,_,i,l,h=>by
   have hi:=(BZ.1 h).1;simp[HB] at hi;subst hi;simp[HB] at h;subst h;exact⟨by simp,fun c hc=>by simp at hc;subst hc;exact⟨by simp[MM],by simp,by simp⟩⟩
 | k+1,hkN,i,l,h=>by
   have ih:=Rj hk k (by omega);have hi:=(BZ.1 h).1;rw[E0] at hi;by_cases e:i=k+1
   · subst e;unfold HB at h;rw[ET (by rw[E0];exact Nat.le_refl _),E0,Nat.sub_self] at h;simp at h;subst h;refine⟨lY,fun c hc=>?_⟩;unfold PG at hc;rcases CO.1 hc with hc|hc
     · split at hc
       · rename_i hF;obtain⟨h1,h2⟩:=hk (k+1) hF hkN
         have g:∀ q,q<k+1→∀ x∈((HB F ka kb k)[q]?).getD [],RowP k x:=fun q hq x hx=>by
          have:(HB F ka kb k)[q]? = some ((HB F ka kb k)[q]'(by rw[E0];omega)):=A1 _;rw[this] at hx;exact ((ih q _ this).2 x hx).mono (by omega)
         exact (iW (g _ h1) (g _ h2) c hc).mono (by omega)
       · simp at hc
     · rw[Hz.1 hc];exact⟨by simp[MM],by simp,fun z hz=>by simp at hz;omega⟩
   · have:(HB F ka kb k)[i]? = some l:=by
      rw[←h];show _=(HB F ka kb k++_)[i]?;rw[DZ (by rw[E0];omega)]
     exact ih i l this
end Go.Proofs.YtnjedabjbeipeaaGreat
