/-
  Balancing as data: joined conjunctions, ordered lists of literals, levels, trees. Plain lemmas, about no function of the program.
  Conditions: those typed in each theorem.
-/
import Derived.Test.YtnjedabjbeipeaaGreatPa
namespace Go.Proofs.YtnjedabjbeipeaaGreat
open Go.RowKit Go.ChangeShapes Go.WideShapes
set_option linter.unusedSimpArgs false
set_option linter.unusedVariables false
set_option maxRecDepth 100000
set_option maxHeartbeats 10000000
def GI (x:AK) (m:List Bool) (k:Nat):List Bool :=
 if AX m (2*k)=true then ((m.set (2*k) false).set (Aj x k).1.toNat true).set (Aj x k).2.toNat true else m
def RA (x:AK) (v:Nat):Nat→List Bool
 | 0=>(List.replicate (2*A0 x) false).set (2*v) true
 | j+1=>GI x (RA x v j) (v - j)
def Fr (x:AK) (v:Nat):List Int:=C2 (RA x v (v+1 - Aa x))
section
variable {x:AK} {v:Nat}
theorem YK {m:List Bool} {k:Nat}:(GI x m k).length=m.length:=by unfold GI;split<;>simp
theorem PD:∀ j,(RA x v j).length=2*A0 x
 | 0=>by simp[RA]
 | j+1=>by show (GI x (RA x v j) (v - j)).length=_;rw[YK];exact PD j
theorem FY {s:List Bool} {i u:Nat} {b:Bool}:AX (s.set i b) u=if i=u∧u<s.length then b else AX s u:=by
 unfold AX;rw[List.getElem?_set];by_cases h:i=u
 · subst h;by_cases h2:i<s.length
   · rw[if_pos rfl,if_pos h2,if_pos ⟨rfl,h2⟩];rfl
   · rw[if_pos rfl,if_neg h2,if_neg (fun h=>h2 h.2),Hv (by omega)]
 · rw[if_neg h,if_neg (fun h2=>h h2.1)]
theorem YA {m:List Bool} {k u:Nat} (h:AX (GI x m k) u=true):(AX m u=true∧(u=2*k→AX m (2*k)=false∨u=(Aj x k).1.toNat∨u=(Aj x k).2.toNat))∨AX m (2*k)=true∧(u=(Aj x k).1.toNat∨u=(Aj x k).2.toNat):=by
 unfold GI at h;split at h
 · rename_i hk;rw[FY,FY,FY] at h;split at h
   · rename_i h1;exact .inr ⟨hk,.inr h1.1.symm⟩
   · split at h
     · rename_i h1;exact .inr ⟨hk,.inl h1.1.symm⟩
     · split at h
       · cases h
       · rename_i h1;refine .inl ⟨h,fun e=>?_⟩;subst e;exact absurd ⟨rfl,ZR h⟩ h1
 · rename_i hk;exact .inl ⟨h,fun e=>.inl (by simpa using hk)⟩
theorem fP (hok:Al x=true) (h1:Aa x≤v) (h2:v<A0 x):∀ j,1≤j→j≤v+1 - Aa x→∀ u,AX (RA x v j) u=true→u<2*v
 | 0,h,_,_,_=>by omega
 | j+1,_,hj,u,hu=>by
   obtain⟨a0,a1,a2,a3,a4,a5,a6⟩:=C3 hok (v:=v - j) (by omega) (by omega);rcases YA (show AX (GI x (RA x v j) (v - j)) u=true from hu) with ⟨h,he⟩|⟨_,h|h⟩
   · by_cases j0:j=0
     · subst j0
       have hz:u=2*v:=by
        have h':AX ((List.replicate (2*A0 x) false).set (2*v) true) u=true:=h;rw[FY] at h';split at h'
        · rename_i e;exact e.1.symm
        · rw[show AX (List.replicate (2*A0 x) false) u=false by unfold AX;rw[List.getElem?_replicate];split<;>rfl] at h'
          cases h'
       rcases he (by rw[hz];rfl) with h3|h3|h3
       · rw[Nat.sub_zero,←hz] at h3;rw[h] at h3
         cases h3
       · rw[Nat.sub_zero] at h3 a3 a5;omega
       · rw[Nat.sub_zero] at h3 a4 a6;omega
     · exact fP hok h1 h2 j (by omega) (by omega) u h
   · omega
   · omega
theorem gZ (hok:Al x=true) (h1:Aa x≤v) (h2:v<A0 x):∀ j,1≤j→j≤v+1 - Aa x→∃ u,AX (RA x v j) u=true∧¬ (u % 2=0∧v+1≤u / 2+j)
 | 0,h,_=>by omega
 | j+1,_,hj=>by
   obtain⟨a0,a1,a2,a3,a4,a5,a6⟩:=C3 hok (v:=v - j) (by omega) (by omega);have hN:=Br x;by_cases hb:AX (RA x v j) (2*(v - j))=true
   · refine⟨(Aj x (v - j)).1.toNat,?_,by omega⟩;show AX (GI x (RA x v j) (v - j)) _=true;unfold GI;rw[if_pos hb,FY,FY];split
     · rfl
     · rw[if_pos ⟨rfl,by rw[Gy,PD];omega⟩]
   · have hj0:j≠0:=by
      intro e;subst e;apply hb;show AX ((List.replicate (2*A0 x) false).set (2*v) true) _=true;rw[FY,if_pos ⟨rfl,by simp;omega⟩]
     obtain⟨u,hu,hn⟩:=gZ hok h1 h2 j (by omega) (by omega);refine⟨u,?_,fun h=>?_⟩
     · show AX (GI x (RA x v j) (v - j)) u=true;unfold GI;rw[if_neg hb];exact hu
     · have:u=2*(v - j):=by omega
       rw[←this] at hb;exact hb hu
theorem QE {s:List Bool} {y:Int}:y∈C2 s↔∃ u:Nat,y=(u:Int)∧AX s u=true:=by
 unfold C2 CU;rw[CE];constructor
 · rintro⟨u,hu,rfl⟩;exact⟨u,rfl,(Mb.1 hu).2⟩
 · rintro⟨u,rfl,hu⟩;exact⟨u,Mb.2 ⟨Gq.2 (ZR hu),hu⟩,rfl⟩
theorem T4 (hok:Al x=true) (h1:Aa x≤v) (h2:v<A0 x):∀ y∈Fr x v,0≤y∧y<2*(v:Int):=fun y hy=>by
 obtain⟨u,rfl,hu⟩:=QE.1 hy;have:=fP hok h1 h2 _ (by omega) (Nat.le_refl _) u hu;omega
theorem ZN (hok:Al x=true) (h1:Aa x≤v) (h2:v<A0 x):Fr x v≠[]:=by
 obtain⟨u,hu,_⟩:=gZ hok h1 h2 (v+1 - Aa x) (by omega) (Nat.le_refl _);exact List.ne_nil_of_mem (QE.2 ⟨u,rfl,hu⟩)
theorem VN (h:A0 x≤400):(Fr x v).length≤800:=by
 have hl:=PD (x:=x) (v:=v) (v+1 - Aa x);unfold Fr C2 CU;rw[Fy];have:=List.length_filter_le (AX (RA x v (v+1 - Aa x))) (List.range (RA x v (v+1 - Aa x)).length);rw[List.length_range] at this;omega
end
def Sb (x:AK):Nat→List Int
 | 0=>List.replicate (A0 x) 0
 | i+1=>(Sb x i).set (Aa x+i) (1+Hb (A3 (Sb x i) ((Aj x (Aa x+i)).1 / 2)) (A3 (Sb x i) ((Aj x (Aa x+i)).2 / 2)))
def Xw (x:AK):List Int:=Sb x x.2.2.1.length
theorem T6 {x:AK}:∀ i,(Sb x i).length=A0 x
 | 0=>by simp[Sb]
 | i+1=>by simp[Sb,T6 i]
theorem ZK {x:AK}:∀ i,∀ y∈Sb x i,0≤y∧y≤(i:Int)
 | 0,y,hy=>by
   have:=List.eq_of_mem_replicate (show y∈List.replicate (A0 x) 0 from hy);omega
 | i+1,y,hy=>by
   have ih:=ZK (x:=x) i
   have at0:∀ k,0≤A3 (Sb x i) k∧A3 (Sb x i) k≤(i:Int):=fun k=>by
    unfold A3
    cases hk:(Sb x i)[k.toNat]? with
    | none=>simp
    | some z=>exact ih z (D4 hk)
   rcases List.mem_or_eq_of_mem_set (show y∈(Sb x i).set _ _ from hy) with h|rfl
   · have:=ih y h;omega
   · have p:=at0 ((Aj x (Aa x+i)).1 / 2);have q:=at0 ((Aj x (Aa x+i)).2 / 2);unfold Hb;split<;>omega
theorem Zh {x:AK}:(Xw x).length=A0 x:=T6 _
def jS (lv:List Int) (lit y:Int):Bool:=decide (A3 lv (lit / 2)<A3 lv (y / 2))||(decide (A3 lv (lit / 2)=A3 lv (y / 2))&&decide (lit<y))
def Gz (lv:List Int) (lit:Int) (xs:List Int):Nat→List Int×Bool
 | 0=>([],false)
 | i+1=>if (Gz lv lit xs i).2=false∧jS lv lit (A3 xs i)=true then ((Gz lv lit xs i).1++[lit]++[A3 xs i],true) else ((Gz lv lit xs i).1++[A3 xs i],(Gz lv lit xs i).2)
def LF (lv:List Int) (lit:Int) (xs:List Int):List Int :=
 if lit∈xs then xs else if (Gz lv lit xs xs.length).2=true then (Gz lv lit xs xs.length).1 else (Gz lv lit xs xs.length).1++[lit]
section
variable {lv:List Int} {lit:Int} {xs:List Int}
theorem QV:∀ i,(Gz lv lit xs i).1.length=i+(if (Gz lv lit xs i).2=true then 1 else 0)
 | 0=>by simp[Gz]
 | i+1=>by
   have ih:=QV i;unfold Gz;split
   · rename_i h;rw[h.1] at ih;simp at ih ⊢;omega
   · simp only[EM,List.length_cons,List.length_nil];rw[ih];omega
theorem Q8:∀ i,i≤xs.length→∀ y∈(Gz lv lit xs i).1,y∈xs∨y=lit
 | 0,_,y,hy=>by simp[Gz] at hy
 | i+1,hi,y,hy=>by
   have ih:=Q8 i (by omega)
   have ha:A3 xs i∈xs:=by
    unfold A3;rw[Int.toNat_natCast,A1 (by omega)];exact Dv _
   unfold Gz at hy;split at hy
   · simp only[CO,Hz] at hy;rcases hy with (hy|hy)|hy
     · exact ih y hy
     · exact .inr hy
     · exact .inl (hy▸ha)
   · simp only[CO,Hz] at hy;rcases hy with hy|hy
     · exact ih y hy
     · exact .inl (hy▸ha)
theorem V1:(LF lv lit xs).length≤xs.length+1∧1≤(LF lv lit xs).length:=by
 have h:=QV (lv:=lv) (lit:=lit) (xs:=xs) xs.length;unfold LF;split
 · rename_i hm;have:=qH hm;omega
 · split
   · rename_i h2;rw[h2] at h;simp at h;omega
   · rename_i h2;rw[if_neg h2] at h;simp only[EM,List.length_cons,List.length_nil];omega
theorem Vr:∀ y∈LF lv lit xs,y∈xs∨y=lit:=fun y hy=>by
 unfold LF at hy;split at hy
 · exact .inl hy
 · split at hy
   · exact Q8 _ (Nat.le_refl _) y hy
   · rcases CO.1 hy with hy|hy
     · exact Q8 _ (Nat.le_refl _) y hy
     · exact .inr (Hz.1 hy)
end
def HC (lv ls:List Int):Nat→List Int
 | 0=>[]
 | i+1=>LF lv (A3 ls i) (HC lv ls i)
theorem Q4 {lv ls:List Int}:∀ i,(HC lv ls i).length≤i∧(1≤i→1≤(HC lv ls i).length)
 | 0=>by simp[HC]
 | i+1=>by
   have ih:=Q4 (lv:=lv) (ls:=ls) i;have h:=V1 (lv:=lv) (lit:=A3 ls i) (xs:=HC lv ls i);unfold HC;omega
theorem QN {lv ls:List Int}:∀ i,i≤ls.length→∀ y∈HC lv ls i,y∈ls
 | 0,_,y,hy=>by simp[HC] at hy
 | i+1,hi,y,hy=>by
   rcases Vr y (show y∈LF lv (A3 ls i) (HC lv ls i) from hy) with h|rfl
   · exact QN i (by omega) y h
   · unfold A3;rw[Int.toNat_natCast,A1 (by omega)];exact Dv _
def EP (x:AK):AK:=(x.1,x.2.1.map CI,[],[])
def fD (z:AK):Nat→List Ai→List Int→List Ai×List Int×Bool
 | 0,an,l=>(an,l,decide (l.length≤1))
 | n+1,an,l =>
   if l.length≤1 then (an,l,true)
   else if AZ (Aa z) an (A3 l 0) (A3 l 1)<0 then (an,l,false)
   else fD z n (Ar an (A3 l 0) (A3 l 1)) (LF (Xw (Ap z (Ar an (A3 l 0) (A3 l 1)))) (AZ (Aa z) an (A3 l 0) (A3 l 1)) (l.drop 2))
structure SD (z:AK) (ns:List Ai) (l:List Int):Prop where
 an:ns.length≤300
 ok:G5 (Aa z) ns
 ls:∀ y∈l,0≤y∧y<2*((Aa z:Int)+ns.length)
 ne:1≤l.length
theorem TQ {l:List Int} {k:Nat} (h:k<l.length):A3 l (k:Int)∈l:=by
 unfold A3;rw[Int.toNat_natCast,A1 h];exact Dv _
theorem VB {z:AK} {an:List Ai} {l:List Int} (hf:0<Aa z) (h:SD z an l) (h2:¬ l.length≤1) (hv:¬ AZ (Aa z) an (A3 l 0) (A3 l 1)<0) :
 SD z (Ar an (A3 l 0) (A3 l 1)) (LF (Xw (Ap z (Ar an (A3 l 0) (A3 l 1)))) (AZ (Aa z) an (A3 l 0) (A3 l 1)) (l.drop 2))∧an.length≤(Ar an (A3 l 0) (A3 l 1)).length∧(LF (Xw (Ap z (Ar an (A3 l 0) (A3 l 1)))) (AZ (Aa z) an (A3 l 0) (A3 l 1)) (l.drop 2)).length<l.length:=by
 have ha:=h.ls _ (TQ (l:=l) (k:=0) (by omega));have hb:=h.ls _ (TQ (l:=l) (k:=1) (by omega));have hr:=BR (fa:=Aa z) (an:=an) (a:=A3 l 0) (b:=A3 l 1) (by omega) ha hb;have hl:=A4 (an:=an) (a:=A3 l 0) (b:=A3 l 1);have h3:=Bv (a:=A3 l 0) (b:=A3 l 1) h.an;have ho:=GL h.ok ha hb;have hd:(l.drop 2).length=l.length - 2:=List.length_drop;generalize Ar an (A3 l 0) (A3 l 1)=an2 at *;generalize AZ (Aa z) an (A3 l 0) (A3 l 1)=w at *;have hi:=V1 (lv:=Xw (Ap z an2)) (lit:=w) (xs:=l.drop 2);refine⟨⟨h3,ho,fun y hy=>?_,hi.2⟩,hl.1,by omega⟩;rcases Vr y hy with hy|rfl
 · have:=h.ls y (List.mem_of_mem_drop hy);omega
 · omega
theorem fW {z:AK} (hf:0<Aa z):∀ (n:Nat) (an:List Ai) (l:List Int),SD z an l→l.length≤n+1→SD z (fD z n an l).1 (fD z n an l).2.1∧an.length≤(fD z n an l).1.length
 | 0,an,l,h,_=>⟨h,Nat.le_refl _⟩
 | n+1,an,l,h,hl=>by
   unfold fD;split
   · exact⟨h,Nat.le_refl _⟩
   · rename_i h2;split
     · exact⟨h,Nat.le_refl _⟩
     · rename_i hv;obtain⟨q1,q2,q3⟩:=VB hf h h2 hv;obtain⟨r1,r2⟩:=fW hf n _ _ q1 (by omega);exact⟨r1,by omega⟩
def Xx (h:AK):Nat→List Bool
 | 0=>KY (List.replicate (A0 h) false) (Ay h) (Ay h).length
 | j+1=>if AX (Xx h j) (A0 h - 1 - j)=true then KY (Xx h j) (Fr h (A0 h - 1 - j)) (Fr h (A0 h - 1 - j)).length else Xx h j
def ndL (h:AK):List Bool:=Xx h h.2.2.1.length
theorem Ka {s:List Bool} {rs:List Int}:∀ j,(KY s rs j).length=s.length
 | 0=>rfl
 | j+1=>by simp[KY,Ka j]
theorem Ul {h:AK}:∀ j,(Xx h j).length=A0 h
 | 0=>by simp[Xx,Ka]
 | j+1=>by
   unfold Xx;split
   · rw[Ka,Ul j]
   · exact Ul j
def IV (h:AK):Nat→List Int×List Ai×Bool
 | 0=>(BD (Aa h),[],true)
 | i+1 =>
   if (IV h i).2.2=false then IV h i
   else if AX (ndL h) (Aa h+i)=false then ((IV h i).1++[0],(IV h i).2.1,true)
   else (fun ls:List Int=>(fun c:List Ai×List Int×Bool=>if c.2.2=false then ((IV h i).1++[0],c.1,false) else (((IV h i).1++[0]).set (Aa h+i) (A3 c.2.1 0),c.1,true))
    (fD (EP h) (HC (Xw (Ap (EP h) (IV h i).2.1)) ls ls.length).length (IV h i).2.1 (HC (Xw (Ap (EP h) (IV h i).2.1)) ls ls.length))) ((Fr h (Aa h+i)).map (Aq ((IV h i).1++[0])))
def RW (x:AK):AK:=if (IV (CB x) (CB x).2.2.1.length).2.2=false then CB x
 else IE ((CB x).1,(CB x).2.1.map (Dx (IV (CB x) (CB x).2.2.1.length).1),(IV (CB x) (CB x).2.2.1.length).2.1,(CB x).2.2.2.map (Aq (IV (CB x) (CB x).2.2.1.length).1))
theorem F9 {x:AK}:Aa (EP x)=Aa x:=by unfold Aa EP;simp
section
variable {h:AK} (hok:Al h=true)
include hok
theorem Sm {i:Nat} (hi:i<h.2.2.1.length) {to:List Int} {an:List Ai} (hl:to.length=Aa h+i) (h3:an.length≤300) (hp:JY (Aa h+an.length) to) (ha:G5 (Aa h) an) (lv:List Int) :
 SD (EP h) an (HC lv ((Fr h (Aa h+i)).map (Aq (to++[0]))) ((Fr h (Aa h+i)).map (Aq (to++[0]))).length):=by
 obtain⟨hF,hgl,hNi,hno⟩:=A9 hok;have hN:=Br h;have hc:=T4 hok (v:=Aa h+i) (by omega) (by omega);have hn:=ZN hok (v:=Aa h+i) (by omega) (by omega);have hf0:0<Aa h:=by unfold Aa;omega
 have hp1:JY (Aa h+an.length) (to++[0]):=fun y hy=>by
  rcases CO.1 hy with hy|hy
  · exact hp y hy
  · rw[Hz.1 hy];omega
 have hlen:1≤((Fr h (Aa h+i)).map (Aq (to++[0]))).length:=by
  rw[Fy];exact List.length_pos_iff.2 hn
 refine⟨h3,by rw[F9];exact ha,fun y hy=>?_,(Q4 _).2 hlen⟩;obtain⟨l,hl2,rfl⟩:=CE.1 (QN _ (Nat.le_refl _) y hy);rw[F9];exact Bp (BK hp1 (by omega) _) (by omega)
theorem Yh:∀ i,i≤h.2.2.1.length→JS (Aa h) (Aa h+i) (IV h i)
 | 0,_=>⟨fun _=>CV,by show (BD (Aa h)).length≤_;rw[CV];omega,H9 (by simp[IV]),by simp[IV],by simp[IV,G5,BU]⟩
 | i+1,hi=>by
   have ih:=Yh i (by omega);have hf0:0<Aa h:=by unfold Aa;omega
   unfold IV;by_cases hb:(IV h i).2.2=false
   · rw[if_pos hb];exact⟨fun e=>(by rw[hb] at e;cases e),by have:=ih.le;omega,ih.pl,ih.an,ih.ok⟩
   rw[if_neg hb];have hbt:(IV h i).2.2=true:=by simpa using hb
   have hl:=ih.len hbt;have hle:=ih.le;have hpl:=ih.pl;have h3:=ih.an;have ho:=ih.ok;generalize (IV h i).1=to at *;generalize (IV h i).2.1=an at *
   have hp1:JY (Aa h+an.length) (to++[0]):=fun y hy=>by
    rcases CO.1 hy with hy|hy
    · exact hpl y hy
    · rw[Hz.1 hy];omega
   split
   · exact⟨fun _=>by simp;omega,by simp;omega,hp1,h3,ho⟩
   · have hL:=Sm hok (i:=i) (by omega) hl h3 hpl ho (Xw (Ap (EP h) an));simp only;generalize (Fr h (Aa h+i)).map (Aq (to++[0]))=ls at *;generalize HC (Xw (Ap (EP h) an)) ls ls.length=l0 at *;obtain⟨c1,c2⟩:=fW (z:=EP h) (by rw[F9];exact hf0) l0.length an l0 hL (by omega);generalize fD (EP h) l0.length an l0=c at *;have e1:=c1.ok;rw[F9] at e1;have hp2:JY (Aa h+c.1.length) (to++[0]):=HM hp1 (by omega);split
     · exact⟨fun e=>(by cases e),by simp;omega,hp2,c1.an,e1⟩
     · refine⟨fun _=>by simp;omega,by simp;omega,fun y hy=>?_,c1.an,e1⟩;rcases List.mem_or_eq_of_mem_set hy with hy|rfl
       · exact hp2 y hy
       · have:=c1.ls _ (TQ (l:=c.2.1) (k:=0) (by have:=c1.ne;omega));rw[F9] at this;exact this
end
theorem oN {x:AK} (hok:Al x=true):Al (RW x)=true:=by
 have hh:=Ke hok;unfold RW;split
 · exact hh
 · have I:=Yh hh _ (Nat.le_refl _);exact Uq (KN hh I.an I.pl I.ok)
end Go.Proofs.YtnjedabjbeipeaaGreat
