/-
  Balancing as data: joined conjunctions, ordered lists of literals, levels, trees. Plain lemmas, about no function of the program.
  Conditions: those typed in each theorem.
-/
import Derived.Test.YtnjedabjbeipeaaGreatPa
namespace Go.Proofs.YtnjedabjbeipeaaGreat
open Go.RowKit Go.ChangeShapes Go.WideShapes
set_option linter.unusedSimpArgs false
set_option linter.unusedVariables false
set_option maxRecDepth 100000
set_option maxHeartbeats 10000000
def GJ (x:AK) (m:List Bool) (k:Nat):List Bool :=
 if AX m (2*k)=true then ((m.set (2*k) false).set (Aj x k).1.toNat true).set (Aj x k).2.toNat true else m
def RA (x:AK) (v:Nat):Nat→List Bool
 | 0=>(List.replicate (2*A0 x) false).set (2*v) true
 | j+1=>GJ x (RA x v j) (v - j)
def Ft (x:AK) (v:Nat):List Int:=C4 (RA x v (v+1 - Aa x))
section
variable {x:AK} {v:Nat}
theorem XM {m:List Bool} {k:Nat}:(GJ x m k).length=m.length:=by unfold GJ;split<;>simp
theorem Pe:∀ j,(RA x v j).length=2*A0 x
 | 0=>by simp[RA]
 | j+1=>by show (GJ x (RA x v j) (v - j)).length=_;rw[XM];exact Pe j
theorem Gd {s:List Bool} {i u:Nat} {b:Bool}:AX (s.set i b) u=if i=u∧u<s.length then b else AX s u:=by
 unfold AX;rw[List.getElem?_set];by_cases h:i=u
 · subst h;by_cases h2:i<s.length
   · rw[if_pos rfl,if_pos h2,if_pos ⟨rfl,h2⟩];rfl
   · rw[if_pos rfl,if_neg h2,if_neg (fun h=>h2 h.2),Hu (by omega)]
 · rw[if_neg h,if_neg (fun h2=>h h2.1)]
theorem X0 {m:List Bool} {k u:Nat} (h:AX (GJ x m k) u=true):(AX m u=true∧(u=2*k→AX m (2*k)=false∨u=(Aj x k).1.toNat∨u=(Aj x k).2.toNat))∨AX m (2*k)=true∧(u=(Aj x k).1.toNat∨u=(Aj x k).2.toNat):=by
 unfold GJ at h;split at h
 · rename_i hk;rw[Gd,Gd,Gd] at h;split at h
   · rename_i h1;exact .inr ⟨hk,.inr h1.1.symm⟩
   · split at h
     · rename_i h1;exact .inr ⟨hk,.inl h1.1.symm⟩
     · split at h
       · cases h
       · rename_i h1;refine .inl ⟨h,fun e=>?_⟩;subst e;exact absurd ⟨rfl,Ze h⟩ h1
 · rename_i hk;exact .inl ⟨h,fun e=>.inl (by simpa using hk)⟩
theorem iR (hok:Al x=true) (h1:Aa x≤v) (h2:v<A0 x):∀ j,1≤j→j≤v+1 - Aa x→∀ u,AX (RA x v j) u=true→u<2*v
 | 0,h,_,_,_=>by omega
 | j+1,_,hj,u,hu=>by
   obtain⟨a0,a1,a2,a3,a4,a5,a6⟩:=C2 hok (v:=v - j) (by omega) (by omega);rcases X0 (show AX (GJ x (RA x v j) (v - j)) u=true from hu) with ⟨h,he⟩|⟨_,h|h⟩
   · by_cases j0:j=0
     · subst j0
       have hz:u=2*v:=by
        have h':AX ((List.replicate (2*A0 x) false).set (2*v) true) u=true:=h;rw[Gd] at h';split at h'
        · rename_i e;exact e.1.symm
        · rw[show AX (List.replicate (2*A0 x) false) u=false by unfold AX;rw[List.getElem?_replicate];split<;>rfl] at h'
          cases h'
       rcases he (by rw[hz];rfl) with h3|h3|h3
       · rw[Nat.sub_zero,←hz] at h3;rw[h] at h3
         cases h3
       · rw[Nat.sub_zero] at h3 a3 a5;omega
       · rw[Nat.sub_zero] at h3 a4 a6;omega
     · exact iR hok h1 h2 j (by omega) (by omega) u h
   · omega
   · omega
theorem kW (hok:Al x=true) (h1:Aa x≤v) (h2:v<A0 x):∀ j,1≤j→j≤v+1 - Aa x→∃ u,AX (RA x v j) u=true∧¬ (u % 2=0∧v+1≤u / 2+j)
 | 0,h,_=>by omega
 | j+1,_,hj=>by
   obtain⟨a0,a1,a2,a3,a4,a5,a6⟩:=C2 hok (v:=v - j) (by omega) (by omega);have hN:=Br x;by_cases hb:AX (RA x v j) (2*(v - j))=true
   · refine⟨(Aj x (v - j)).1.toNat,?_,by omega⟩;show AX (GJ x (RA x v j) (v - j)) _=true;unfold GJ;rw[if_pos hb,Gd,Gd];split
     · rfl
     · rw[if_pos ⟨rfl,by rw[GA,Pe];omega⟩]
   · have hj0:j≠0:=by
      intro e;subst e;apply hb;show AX ((List.replicate (2*A0 x) false).set (2*v) true) _=true;rw[Gd,if_pos ⟨rfl,by simp;omega⟩]
     obtain⟨u,hu,hn⟩:=kW hok h1 h2 j (by omega) (by omega);refine⟨u,?_,fun h=>?_⟩
     · show AX (GJ x (RA x v j) (v - j)) u=true;unfold GJ;rw[if_neg hb];exact hu
     · have:u=2*(v - j):=by omega
       rw[←this] at hb;exact hb hu
theorem Q8 {s:List Bool} {y:Int}:y∈C4 s↔∃ u:Nat,y=(u:Int)∧AX s u=true:=by
 unfold C4 CP;rw[CF];constructor
 · rintro⟨u,hu,rfl⟩;exact⟨u,rfl,(Mb.1 hu).2⟩
 · rintro⟨u,rfl,hu⟩;exact⟨u,Mb.2 ⟨Gu.2 (Ze hu),hu⟩,rfl⟩
theorem UK (hok:Al x=true) (h1:Aa x≤v) (h2:v<A0 x):∀ y∈Ft x v,0≤y∧y<2*(v:Int):=fun y hy=>by
 obtain⟨u,rfl,hu⟩:=Q8.1 hy;have:=iR hok h1 h2 _ (by omega) (Nat.le_refl _) u hu;omega
theorem Zj (hok:Al x=true) (h1:Aa x≤v) (h2:v<A0 x):Ft x v≠[]:=by
 obtain⟨u,hu,_⟩:=kW hok h1 h2 (v+1 - Aa x) (by omega) (Nat.le_refl _);exact List.ne_nil_of_mem (Q8.2 ⟨u,rfl,hu⟩)
theorem W5 (h:A0 x≤400):(Ft x v).length≤800:=by
 have hl:=Pe (x:=x) (v:=v) (v+1 - Aa x);unfold Ft C4 CP;rw[FB];have:=List.length_filter_le (AX (RA x v (v+1 - Aa x))) (List.range (RA x v (v+1 - Aa x)).length);rw[List.length_range] at this;omega
end
def R5 (x:AK):Nat→List Int
 | 0=>List.replicate (A0 x) 0
 | i+1=>(R5 x i).set (Aa x+i) (1+GZ (A3 (R5 x i) ((Aj x (Aa x+i)).1 / 2)) (A3 (R5 x i) ((Aj x (Aa x+i)).2 / 2)))
def Xx (x:AK):List Int:=R5 x x.2.2.1.length
theorem UF {x:AK}:∀ i,(R5 x i).length=A0 x
 | 0=>by simp[R5]
 | i+1=>by simp[R5,UF i]
theorem Zb {x:AK}:∀ i,∀ y∈R5 x i,0≤y∧y≤(i:Int)
 | 0,y,hy=>by
   have:=List.eq_of_mem_replicate (show y∈List.replicate (A0 x) 0 from hy);omega
 | i+1,y,hy=>by
   have ih:=Zb (x:=x) i
   have at0:∀ k,0≤A3 (R5 x i) k∧A3 (R5 x i) k≤(i:Int):=fun k=>by
    unfold A3
    cases hk:(R5 x i)[k.toNat]? with
    | none=>simp
    | some z=>exact ih z (D1 hk)
   rcases List.mem_or_eq_of_mem_set (show y∈(R5 x i).set _ _ from hy) with h|rfl
   · have:=ih y h;omega
   · have p:=at0 ((Aj x (Aa x+i)).1 / 2);have q:=at0 ((Aj x (Aa x+i)).2 / 2);unfold GZ;split<;>omega
theorem Zv {x:AK}:(Xx x).length=A0 x:=UF _
def jQ (lv:List Int) (lit y:Int):Bool:=decide (A3 lv (lit / 2)<A3 lv (y / 2))||(decide (A3 lv (lit / 2)=A3 lv (y / 2))&&decide (lit<y))
def Gz (lv:List Int) (lit:Int) (xs:List Int):Nat→List Int×Bool
 | 0=>([],false)
 | i+1=>if (Gz lv lit xs i).2=false∧jQ lv lit (A3 xs i)=true then ((Gz lv lit xs i).1++[lit]++[A3 xs i],true) else ((Gz lv lit xs i).1++[A3 xs i],(Gz lv lit xs i).2)
def LM (lv:List Int) (lit:Int) (xs:List Int):List Int :=
 if lit∈xs then xs else if (Gz lv lit xs xs.length).2=true then (Gz lv lit xs xs.length).1 else (Gz lv lit xs xs.length).1++[lit]
section
variable {lv:List Int} {lit:Int} {xs:List Int}
theorem QJ:∀ i,(Gz lv lit xs i).1.length=i+(if (Gz lv lit xs i).2=true then 1 else 0)
 | 0=>by simp[Gz]
 | i+1=>by
   have ih:=QJ i;unfold Gz;split
   · rename_i h;rw[h.1] at ih;simp at ih ⊢;omega
   · simp only[EM,List.length_cons,List.length_nil];rw[ih];omega
theorem QQ:∀ i,i≤xs.length→∀ y∈(Gz lv lit xs i).1,y∈xs∨y=lit
 | 0,_,y,hy=>by simp[Gz] at hy
 | i+1,hi,y,hy=>by
   have ih:=QQ i (by omega)
   have ha:A3 xs i∈xs:=by
    unfold A3;rw[Int.toNat_natCast,A1 (by omega)];exact Dv _
   unfold Gz at hy;split at hy
   · simp only[CO,HE] at hy;rcases hy with (hy|hy)|hy
     · exact ih y hy
     · exact .inr hy
     · exact .inl (hy▸ha)
   · simp only[CO,HE] at hy;rcases hy with hy|hy
     · exact ih y hy
     · exact .inl (hy▸ha)
theorem Xv:(LM lv lit xs).length≤xs.length+1∧1≤(LM lv lit xs).length:=by
 have h:=QJ (lv:=lv) (lit:=lit) (xs:=xs) xs.length;unfold LM;split
 · rename_i hm;have:=qG hm;omega
 · split
   · rename_i h2;rw[h2] at h;simp at h;omega
   · rename_i h2;rw[if_neg h2] at h;simp only[EM,List.length_cons,List.length_nil];omega
theorem Xq:∀ y∈LM lv lit xs,y∈xs∨y=lit:=fun y hy=>by
 unfold LM at hy;split at hy
 · exact .inl hy
 · split at hy
   · exact QQ _ (Nat.le_refl _) y hy
   · rcases CO.1 hy with hy|hy
     · exact QQ _ (Nat.le_refl _) y hy
     · exact .inr (HE.1 hy)
end
def HD (lv ls:List Int):Nat→List Int
 | 0=>[]
 | i+1=>LM lv (A3 ls i) (HD lv ls i)
theorem Rm {lv ls:List Int}:∀ i,(HD lv ls i).length≤i∧(1≤i→1≤(HD lv ls i).length)
 | 0=>by simp[HD]
 | i+1=>by
   have ih:=Rm (lv:=lv) (ls:=ls) i;have h:=Xv (lv:=lv) (lit:=A3 ls i) (xs:=HD lv ls i);unfold HD;omega
theorem PV {lv ls:List Int}:∀ i,i≤ls.length→∀ y∈HD lv ls i,y∈ls
 | 0,_,y,hy=>by simp[HD] at hy
 | i+1,hi,y,hy=>by
   rcases Xq y (show y∈LM lv (A3 ls i) (HD lv ls i) from hy) with h|rfl
   · exact PV i (by omega) y h
   · unfold A3;rw[Int.toNat_natCast,A1 (by omega)];exact Dv _
def EO (x:AK):AK:=(x.1,x.2.1.map CI,[],[])
def jC (z:AK):Nat→List Ai→List Int→List Ai×List Int×Bool
 | 0,an,l=>(an,l,decide (l.length≤1))
 | n+1,an,l =>
   if l.length≤1 then (an,l,true)
   else if AZ (Aa z) an (A3 l 0) (A3 l 1)<0 then (an,l,false)
   else jC z n (Ar an (A3 l 0) (A3 l 1)) (LM (Xx (Ap z (Ar an (A3 l 0) (A3 l 1)))) (AZ (Aa z) an (A3 l 0) (A3 l 1)) (l.drop 2))
structure SD (z:AK) (ns:List Ai) (l:List Int):Prop where
 an:ns.length≤300
 ok:G8 (Aa z) ns
 ls:∀ y∈l,0≤y∧y<2*((Aa z:Int)+ns.length)
 ne:1≤l.length
theorem T4 {l:List Int} {k:Nat} (h:k<l.length):A3 l (k:Int)∈l:=by
 unfold A3;rw[Int.toNat_natCast,A1 h];exact Dv _
theorem Vh {z:AK} {an:List Ai} {l:List Int} (hf:0<Aa z) (h:SD z an l) (h2:¬ l.length≤1) (hv:¬ AZ (Aa z) an (A3 l 0) (A3 l 1)<0) :
 SD z (Ar an (A3 l 0) (A3 l 1)) (LM (Xx (Ap z (Ar an (A3 l 0) (A3 l 1)))) (AZ (Aa z) an (A3 l 0) (A3 l 1)) (l.drop 2))∧an.length≤(Ar an (A3 l 0) (A3 l 1)).length∧(LM (Xx (Ap z (Ar an (A3 l 0) (A3 l 1)))) (AZ (Aa z) an (A3 l 0) (A3 l 1)) (l.drop 2)).length<l.length:=by
 have ha:=h.ls _ (T4 (l:=l) (k:=0) (by omega));have hb:=h.ls _ (T4 (l:=l) (k:=1) (by omega));have hr:=BQ (fa:=Aa z) (an:=an) (a:=A3 l 0) (b:=A3 l 1) (by omega) ha hb;have hl:=A4 (an:=an) (a:=A3 l 0) (b:=A3 l 1);have h3:=Bw (a:=A3 l 0) (b:=A3 l 1) h.an;have ho:=GQ h.ok ha hb;have hd:(l.drop 2).length=l.length - 2:=List.length_drop;generalize Ar an (A3 l 0) (A3 l 1)=an2 at *;generalize AZ (Aa z) an (A3 l 0) (A3 l 1)=w at *;have hi:=Xv (lv:=Xx (Ap z an2)) (lit:=w) (xs:=l.drop 2);refine⟨⟨h3,ho,fun y hy=>?_,hi.2⟩,hl.1,by omega⟩;rcases Xq y hy with hy|rfl
 · have:=h.ls y (List.mem_of_mem_drop hy);omega
 · omega
theorem fF {z:AK} (hf:0<Aa z):∀ (n:Nat) (an:List Ai) (l:List Int),SD z an l→l.length≤n+1→SD z (jC z n an l).1 (jC z n an l).2.1∧an.length≤(jC z n an l).1.length
 | 0,an,l,h,_=>⟨h,Nat.le_refl _⟩
 | n+1,an,l,h,hl=>by
   unfold jC;split
   · exact⟨h,Nat.le_refl _⟩
   · rename_i h2;split
     · exact⟨h,Nat.le_refl _⟩
     · rename_i hv;obtain⟨q1,q2,q3⟩:=Vh hf h h2 hv;obtain⟨r1,r2⟩:=fF hf n _ _ q1 (by omega);exact⟨r1,by omega⟩
def Xy (h:AK):Nat→List Bool
 | 0=>KW (List.replicate (A0 h) false) (Ay h) (Ay h).length
 | j+1=>if AX (Xy h j) (A0 h - 1 - j)=true then KW (Xy h j) (Ft h (A0 h - 1 - j)) (Ft h (A0 h - 1 - j)).length else Xy h j
def ndL (h:AK):List Bool:=Xy h h.2.2.1.length
theorem Kn {s:List Bool} {rs:List Int}:∀ j,(KW s rs j).length=s.length
 | 0=>rfl
 | j+1=>by simp[KW,Kn j]
theorem TS {h:AK}:∀ j,(Xy h j).length=A0 h
 | 0=>by simp[Xy,Kn]
 | j+1=>by
   unfold Xy;split
   · rw[Kn,TS j]
   · exact TS j
def IJ (h:AK):Nat→List Int×List Ai×Bool
 | 0=>(BE (Aa h),[],true)
 | i+1 =>
   if (IJ h i).2.2=false then IJ h i
   else if AX (ndL h) (Aa h+i)=false then ((IJ h i).1++[0],(IJ h i).2.1,true)
   else (fun ls:List Int=>(fun c:List Ai×List Int×Bool=>if c.2.2=false then ((IJ h i).1++[0],c.1,false) else (((IJ h i).1++[0]).set (Aa h+i) (A3 c.2.1 0),c.1,true))
    (jC (EO h) (HD (Xx (Ap (EO h) (IJ h i).2.1)) ls ls.length).length (IJ h i).2.1 (HD (Xx (Ap (EO h) (IJ h i).2.1)) ls ls.length))) ((Ft h (Aa h+i)).map (Aq ((IJ h i).1++[0])))
def RZ (x:AK):AK:=if (IJ (CD x) (CD x).2.2.1.length).2.2=false then CD x
 else IE ((CD x).1,(CD x).2.1.map (Dy (IJ (CD x) (CD x).2.2.1.length).1),(IJ (CD x) (CD x).2.2.1.length).2.1,(CD x).2.2.2.map (Aq (IJ (CD x) (CD x).2.2.1.length).1))
theorem Gb {x:AK}:Aa (EO x)=Aa x:=by unfold Aa EO;simp
section
variable {h:AK} (hok:Al h=true)
include hok
theorem TE {i:Nat} (hi:i<h.2.2.1.length) {to:List Int} {an:List Ai} (hl:to.length=Aa h+i) (h3:an.length≤300) (hp:JZ (Aa h+an.length) to) (ha:G8 (Aa h) an) (lv:List Int) :
 SD (EO h) an (HD lv ((Ft h (Aa h+i)).map (Aq (to++[0]))) ((Ft h (Aa h+i)).map (Aq (to++[0]))).length):=by
 obtain⟨hF,hgl,hNi,hno⟩:=A9 hok;have hN:=Br h;have hc:=UK hok (v:=Aa h+i) (by omega) (by omega);have hn:=Zj hok (v:=Aa h+i) (by omega) (by omega);have hf0:0<Aa h:=by unfold Aa;omega
 have hp1:JZ (Aa h+an.length) (to++[0]):=fun y hy=>by
  rcases CO.1 hy with hy|hy
  · exact hp y hy
  · rw[HE.1 hy];omega
 have hlen:1≤((Ft h (Aa h+i)).map (Aq (to++[0]))).length:=by
  rw[FB];exact List.length_pos_iff.2 hn
 refine⟨h3,by rw[Gb];exact ha,fun y hy=>?_,(Rm _).2 hlen⟩;obtain⟨l,hl2,rfl⟩:=CF.1 (PV _ (Nat.le_refl _) y hy);rw[Gb];exact Bq (BK hp1 (by omega) _) (by omega)
theorem YK:∀ i,i≤h.2.2.1.length→JV (Aa h) (Aa h+i) (IJ h i)
 | 0,_=>⟨fun _=>CV,by show (BE (Aa h)).length≤_;rw[CV];omega,H8 (by simp[IJ]),by simp[IJ],by simp[IJ,G8,BU]⟩
 | i+1,hi=>by
   have ih:=YK i (by omega);have hf0:0<Aa h:=by unfold Aa;omega
   unfold IJ;by_cases hb:(IJ h i).2.2=false
   · rw[if_pos hb];exact⟨fun e=>(by rw[hb] at e;cases e),by have:=ih.le;omega,ih.pl,ih.an,ih.ok⟩
   rw[if_neg hb];have hbt:(IJ h i).2.2=true:=by simpa using hb
   have hl:=ih.len hbt;have hle:=ih.le;have hpl:=ih.pl;have h3:=ih.an;have ho:=ih.ok;generalize (IJ h i).1=to at *;generalize (IJ h i).2.1=an at *
   have hp1:JZ (Aa h+an.length) (to++[0]):=fun y hy=>by
    rcases CO.1 hy with hy|hy
    · exact hpl y hy
    · rw[HE.1 hy];omega
   split
   · exact⟨fun _=>by simp;omega,by simp;omega,hp1,h3,ho⟩
   · have hL:=TE hok (i:=i) (by omega) hl h3 hpl ho (Xx (Ap (EO h) an));simp only;generalize (Ft h (Aa h+i)).map (Aq (to++[0]))=ls at *;generalize HD (Xx (Ap (EO h) an)) ls ls.length=l0 at *;obtain⟨c1,c2⟩:=fF (z:=EO h) (by rw[Gb];exact hf0) l0.length an l0 hL (by omega);generalize jC (EO h) l0.length an l0=c at *;have e1:=c1.ok;rw[Gb] at e1;have hp2:JZ (Aa h+c.1.length) (to++[0]):=HM hp1 (by omega);split
     · exact⟨fun e=>(by cases e),by simp;omega,hp2,c1.an,e1⟩
     · refine⟨fun _=>by simp;omega,by simp;omega,fun y hy=>?_,c1.an,e1⟩;rcases List.mem_or_eq_of_mem_set hy with hy|rfl
       · exact hp2 y hy
       · have:=c1.ls _ (T4 (l:=c.2.1) (k:=0) (by have:=c1.ne;omega));rw[Gb] at this;exact this
end
theorem mR {x:AK} (hok:Al x=true):Al (RZ x)=true:=by
 have hh:=J8 hok;unfold RZ;split
 · exact hh
 · have I:=YK hh _ (Nat.le_refl _);exact T1 (Kh hh I.an I.pl I.ok)
end Go.Proofs.YtnjedabjbeipeaaGreat
