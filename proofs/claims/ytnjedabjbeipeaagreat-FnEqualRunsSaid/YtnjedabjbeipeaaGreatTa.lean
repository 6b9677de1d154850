/-
  Balancing as data: joined conjunctions, ordered lists of literals, levels, trees. Plain lemmas, about no function of the program.
  Conditions: those typed in each theorem.
-/
import Derived.Test.YtnjedabjbeipeaaGreatPa
namespace Go.Proofs.YtnjedabjbeipeaaGreat
open Go.RowKit Go.ChangeShapes Go.WideShapes
set_option linter.unusedSimpArgs false
set_option linter.unusedVariables false
set_option maxRecDepth 100000
set_option maxHeartbeats 10000000
def Gq (x:AK) (m:List Bool) (k:Nat):List Bool :=
 if AX m (2*k)=true then ((m.set (2*k) false).set (Aj x k).1.toNat true).set (Aj x k).2.toNat true else m
def QZ (x:AK) (v:Nat):Nat→List Bool
 | 0=>(List.replicate (2*A0 x) false).set (2*v) true
 | j+1=>Gq x (QZ x v j) (v - j)
def Fa (x:AK) (v:Nat):List Int:=CV (QZ x v (v+1 - Aa x))
section
variable {x:AK} {v:Nat}
theorem XA {m:List Bool} {k:Nat}:(Gq x m k).length=m.length:=by unfold Gq;split<;>simp
theorem OV:∀ j,(QZ x v j).length=2*A0 x
 | 0=>by simp[QZ]
 | j+1=>by show (Gq x (QZ x v j) (v - j)).length=_;rw[XA];exact OV j
theorem FJ {s:List Bool} {i u:Nat} {b:Bool}:AX (s.set i b) u=if i=u∧u<s.length then b else AX s u:=by
 unfold AX;rw[List.getElem?_set];by_cases h:i=u
 · subst h;by_cases h2:i<s.length
   · rw[if_pos rfl,if_pos h2,if_pos ⟨rfl,h2⟩];rfl
   · rw[if_pos rfl,if_neg h2,if_neg (fun h=>h2 h.2),ACE (by omega)]
 · rw[if_neg h,if_neg (fun h2=>h h2.1)]
theorem XY {m:List Bool} {k u:Nat} (h:AX (Gq x m k) u=true):(AX m u=true∧(u=2*k→AX m (2*k)=false∨u=(Aj x k).1.toNat∨u=(Aj x k).2.toNat))∨AX m (2*k)=true∧(u=(Aj x k).1.toNat∨u=(Aj x k).2.toNat):=by
 unfold Gq at h;split at h
 · rename_i hk;rw[FJ,FJ,FJ] at h;split at h
   · rename_i h1;exact .inr ⟨hk,.inr h1.1.symm⟩
   · split at h
     · rename_i h1;exact .inr ⟨hk,.inl h1.1.symm⟩
     · split at h
       · cases h
       · rename_i h1;refine .inl ⟨h,fun e=>?_⟩;subst e;exact absurd ⟨rfl,YN h⟩ h1
 · rename_i hk;exact .inl ⟨h,fun e=>.inl (by simpa using hk)⟩
theorem jI (hok:Al x=true) (h1:Aa x≤v) (h2:v<A0 x):∀ j,1≤j→j≤v+1 - Aa x→∀ u,AX (QZ x v j) u=true→u<2*v
 | 0,h,_,_,_=>by omega
 | j+1,_,hj,u,hu=>by
   obtain⟨a0,a1,a2,a3,a4,a5,a6⟩:=CW hok (v:=v - j) (by omega) (by omega);rcases XY (show AX (Gq x (QZ x v j) (v - j)) u=true from hu) with ⟨h,he⟩|⟨_,h|h⟩
   · by_cases j0:j=0
     · subst j0
       have hz:u=2*v:=by
        have h':AX ((List.replicate (2*A0 x) false).set (2*v) true) u=true:=h;rw[FJ] at h';split at h'
        · rename_i e;exact e.1.symm
        · rw[show AX (List.replicate (2*A0 x) false) u=false by unfold AX;rw[List.getElem?_replicate];split<;>rfl] at h'
          cases h'
       rcases he (by rw[hz];rfl) with h3|h3|h3
       · rw[Nat.sub_zero,←hz] at h3;rw[h] at h3
         cases h3
       · rw[Nat.sub_zero] at h3 a3 a5;omega
       · rw[Nat.sub_zero] at h3 a4 a6;omega
     · exact jI hok h1 h2 j (by omega) (by omega) u h
   · omega
   · omega
theorem fG (hok:Al x=true) (h1:Aa x≤v) (h2:v<A0 x):∀ j,1≤j→j≤v+1 - Aa x→∃ u,AX (QZ x v j) u=true∧¬ (u % 2=0∧v+1≤u / 2+j)
 | 0,h,_=>by omega
 | j+1,_,hj=>by
   obtain⟨a0,a1,a2,a3,a4,a5,a6⟩:=CW hok (v:=v - j) (by omega) (by omega);have hN:=Bp x;by_cases hb:AX (QZ x v j) (2*(v - j))=true
   · refine⟨(Aj x (v - j)).1.toNat,?_,by omega⟩;show AX (Gq x (QZ x v j) (v - j)) _=true;unfold Gq;rw[if_pos hb,FJ,FJ];split
     · rfl
     · rw[if_pos ⟨rfl,by rw[ABf,OV];omega⟩]
   · have hj0:j≠0:=by
      intro e;subst e;apply hb;show AX ((List.replicate (2*A0 x) false).set (2*v) true) _=true;rw[FJ,if_pos ⟨rfl,by simp;omega⟩]
     obtain⟨u,hu,hn⟩:=fG hok h1 h2 j (by omega) (by omega);refine⟨u,?_,fun h=>?_⟩
     · show AX (Gq x (QZ x v j) (v - j)) u=true;unfold Gq;rw[if_neg hb];exact hu
     · have:u=2*(v - j):=by omega
       rw[←this] at hb;exact hb hu
theorem PK {s:List Bool} {y:Int}:y∈CV s↔∃ u:Nat,y=(u:Int)∧AX s u=true:=by
 unfold CV CM;rw[ABc];constructor
 · rintro⟨u,hu,rfl⟩;exact⟨u,rfl,(ABx.1 hu).2⟩
 · rintro⟨u,rfl,hu⟩;exact⟨u,ABx.2 ⟨ABw.2 (YN hu),hu⟩,rfl⟩
theorem Ug (hok:Al x=true) (h1:Aa x≤v) (h2:v<A0 x):∀ y∈Fa x v,0≤y∧y<2*(v:Int):=fun y hy=>by
 obtain⟨u,rfl,hu⟩:=PK.1 hy;have:=jI hok h1 h2 _ (by omega) (Nat.le_refl _) u hu;omega
theorem YX (hok:Al x=true) (h1:Aa x≤v) (h2:v<A0 x):Fa x v≠[]:=by
 obtain⟨u,hu,_⟩:=fG hok h1 h2 (v+1 - Aa x) (by omega) (Nat.le_refl _);exact List.ne_nil_of_mem (PK.2 ⟨u,rfl,hu⟩)
theorem U5 (h:A0 x≤400):(Fa x v).length≤800:=by
 have hl:=OV (x:=x) (v:=v) (v+1 - Aa x);unfold Fa CV CM;rw[AB7];have:=List.length_filter_le (AX (QZ x v (v+1 - Aa x))) (List.range (QZ x v (v+1 - Aa x)).length);rw[List.length_range] at this;omega
end
def Rx (x:AK):Nat→List Int
 | 0=>List.replicate (A0 x) 0
 | i+1=>(Rx x i).set (Aa x+i) (1+GD (A1 (Rx x i) ((Aj x (Aa x+i)).1 / 2)) (A1 (Rx x i) ((Aj x (Aa x+i)).2 / 2)))
def WW (x:AK):List Int:=Rx x x.2.2.1.length
theorem T2 {x:AK}:∀ i,(Rx x i).length=A0 x
 | 0=>by simp[Rx]
 | i+1=>by simp[Rx,T2 i]
theorem Za {x:AK}:∀ i,∀ y∈Rx x i,0≤y∧y≤(i:Int)
 | 0,y,hy=>by
   have:=List.eq_of_mem_replicate (show y∈List.replicate (A0 x) 0 from hy);omega
 | i+1,y,hy=>by
   have ih:=Za (x:=x) i
   have at0:∀ k,0≤A1 (Rx x i) k∧A1 (Rx x i) k≤(i:Int):=fun k=>by
    unfold A1
    cases hk:(Rx x i)[k.toNat]? with
    | none=>simp
    | some z=>exact ih z (zz6 hk)
   rcases List.mem_or_eq_of_mem_set (show y∈(Rx x i).set _ _ from hy) with h|rfl
   · have:=ih y h;omega
   · have p:=at0 ((Aj x (Aa x+i)).1 / 2);have q:=at0 ((Aj x (Aa x+i)).2 / 2);unfold GD;split<;>omega
theorem YG {x:AK}:(WW x).length=A0 x:=T2 _
def iM (lv:List Int) (lit y:Int):Bool:=decide (A1 lv (lit / 2)<A1 lv (y / 2))||(decide (A1 lv (lit / 2)=A1 lv (y / 2))&&decide (lit<y))
def F8 (lv:List Int) (lit:Int) (xs:List Int):Nat→List Int×Bool
 | 0=>([],false)
 | i+1=>if (F8 lv lit xs i).2=false∧iM lv lit (A1 xs i)=true then ((F8 lv lit xs i).1++[lit]++[A1 xs i],true) else ((F8 lv lit xs i).1++[A1 xs i],(F8 lv lit xs i).2)
def Lm (lv:List Int) (lit:Int) (xs:List Int):List Int :=
 if lit∈xs then xs else if (F8 lv lit xs xs.length).2=true then (F8 lv lit xs xs.length).1 else (F8 lv lit xs xs.length).1++[lit]
section
variable {lv:List Int} {lit:Int} {xs:List Int}
theorem PM:∀ i,(F8 lv lit xs i).1.length=i+(if (F8 lv lit xs i).2=true then 1 else 0)
 | 0=>by simp[F8]
 | i+1=>by
   have ih:=PM i;unfold F8;split
   · rename_i h;rw[h.1] at ih;simp at ih ⊢;omega
   · simp only[AB0,List.length_cons,List.length_nil];rw[ih];omega
theorem Qm:∀ i,i≤xs.length→∀ y∈(F8 lv lit xs i).1,y∈xs∨y=lit
 | 0,_,y,hy=>by simp[F8] at hy
 | i+1,hi,y,hy=>by
   have ih:=Qm i (by omega)
   have ha:A1 xs i∈xs:=by
    unfold A1;rw[Int.toNat_natCast,zz0 (by omega)];exact ABt _
   unfold F8 at hy;split at hy
   · simp only[ACB,zz9] at hy;rcases hy with (hy|hy)|hy
     · exact ih y hy
     · exact .inr hy
     · exact .inl (hy▸ha)
   · simp only[ACB,zz9] at hy;rcases hy with hy|hy
     · exact ih y hy
     · exact .inl (hy▸ha)
theorem V0:(Lm lv lit xs).length≤xs.length+1∧1≤(Lm lv lit xs).length:=by
 have h:=PM (lv:=lv) (lit:=lit) (xs:=xs) xs.length;unfold Lm;split
 · rename_i hm;have:=AB4 hm;omega
 · split
   · rename_i h2;rw[h2] at h;simp at h;omega
   · rename_i h2;rw[if_neg h2] at h;simp only[AB0,List.length_cons,List.length_nil];omega
theorem V6:∀ y∈Lm lv lit xs,y∈xs∨y=lit:=fun y hy=>by
 unfold Lm at hy;split at hy
 · exact .inl hy
 · split at hy
   · exact Qm _ (Nat.le_refl _) y hy
   · rcases ACB.1 hy with hy|hy
     · exact Qm _ (Nat.le_refl _) y hy
     · exact .inr (zz9.1 hy)
end
def Hd (lv ls:List Int):Nat→List Int
 | 0=>[]
 | i+1=>Lm lv (A1 ls i) (Hd lv ls i)
theorem PV {lv ls:List Int}:∀ i,(Hd lv ls i).length≤i∧(1≤i→1≤(Hd lv ls i).length)
 | 0=>by simp[Hd]
 | i+1=>by
   have ih:=PV (lv:=lv) (ls:=ls) i;have h:=V0 (lv:=lv) (lit:=A1 ls i) (xs:=Hd lv ls i);unfold Hd;omega
theorem QS {lv ls:List Int}:∀ i,i≤ls.length→∀ y∈Hd lv ls i,y∈ls
 | 0,_,y,hy=>by simp[Hd] at hy
 | i+1,hi,y,hy=>by
   rcases V6 y (show y∈Lm lv (A1 ls i) (Hd lv ls i) from hy) with h|rfl
   · exact QS i (by omega) y h
   · unfold A1;rw[Int.toNat_natCast,zz0 (by omega)];exact ABt _
def Ez (x:AK):AK:=(x.1,x.2.1.map CE,[],[])
def iE (z:AK):Nat→List Ai→List Int→List Ai×List Int×Bool
 | 0,an,l=>(an,l,decide (l.length≤1))
 | n+1,an,l =>
   if l.length≤1 then (an,l,true)
   else if AZ (Aa z) an (A1 l 0) (A1 l 1)<0 then (an,l,false)
   else iE z n (Ar an (A1 l 0) (A1 l 1)) (Lm (WW (Ap z (Ar an (A1 l 0) (A1 l 1)))) (AZ (Aa z) an (A1 l 0) (A1 l 1)) (l.drop 2))
structure SK (z:AK) (ns:List Ai) (l:List Int):Prop where
 an:ns.length≤300
 ok:GR (Aa z) ns
 ls:∀ y∈l,0≤y∧y<2*((Aa z:Int)+ns.length)
 ne:1≤l.length
theorem Tv {l:List Int} {k:Nat} (h:k<l.length):A1 l (k:Int)∈l:=by
 unfold A1;rw[Int.toNat_natCast,zz0 h];exact ABt _
theorem Vp {z:AK} {an:List Ai} {l:List Int} (hf:0<Aa z) (h:SK z an l) (h2:¬ l.length≤1) (hv:¬ AZ (Aa z) an (A1 l 0) (A1 l 1)<0) :
 SK z (Ar an (A1 l 0) (A1 l 1)) (Lm (WW (Ap z (Ar an (A1 l 0) (A1 l 1)))) (AZ (Aa z) an (A1 l 0) (A1 l 1)) (l.drop 2))∧an.length≤(Ar an (A1 l 0) (A1 l 1)).length∧(Lm (WW (Ap z (Ar an (A1 l 0) (A1 l 1)))) (AZ (Aa z) an (A1 l 0) (A1 l 1)) (l.drop 2)).length<l.length:=by
 have ha:=h.ls _ (Tv (l:=l) (k:=0) (by omega));have hb:=h.ls _ (Tv (l:=l) (k:=1) (by omega));have hr:=BL (fa:=Aa z) (an:=an) (a:=A1 l 0) (b:=A1 l 1) (by omega) ha hb;have hl:=A3 (an:=an) (a:=A1 l 0) (b:=A1 l 1);have h3:=Bu (a:=A1 l 0) (b:=A1 l 1) h.an;have ho:=Gp h.ok ha hb;have hd:(l.drop 2).length=l.length - 2:=List.length_drop;generalize Ar an (A1 l 0) (A1 l 1)=an2 at *;generalize AZ (Aa z) an (A1 l 0) (A1 l 1)=w at *;have hi:=V0 (lv:=WW (Ap z an2)) (lit:=w) (xs:=l.drop 2);refine⟨⟨h3,ho,fun y hy=>?_,hi.2⟩,hl.1,by omega⟩;rcases V6 y hy with hy|rfl
 · have:=h.ls y (List.mem_of_mem_drop hy);omega
 · omega
theorem cX {z:AK} (hf:0<Aa z):∀ (n:Nat) (an:List Ai) (l:List Int),SK z an l→l.length≤n+1→SK z (iE z n an l).1 (iE z n an l).2.1∧an.length≤(iE z n an l).1.length
 | 0,an,l,h,_=>⟨h,Nat.le_refl _⟩
 | n+1,an,l,h,hl=>by
   unfold iE;split
   · exact⟨h,Nat.le_refl _⟩
   · rename_i h2;split
     · exact⟨h,Nat.le_refl _⟩
     · rename_i hv;obtain⟨q1,q2,q3⟩:=Vp hf h h2 hv;obtain⟨r1,r2⟩:=cX hf n _ _ q1 (by omega);exact⟨r1,by omega⟩
def WX (h:AK):Nat→List Bool
 | 0=>Kt (List.replicate (A0 h) false) (Ay h) (Ay h).length
 | j+1=>if AX (WX h j) (A0 h - 1 - j)=true then Kt (WX h j) (Fa h (A0 h - 1 - j)) (Fa h (A0 h - 1 - j)).length else WX h j
def ndL (h:AK):List Bool:=WX h h.2.2.1.length
theorem Ka {s:List Bool} {rs:List Int}:∀ j,(Kt s rs j).length=s.length
 | 0=>rfl
 | j+1=>by simp[Kt,Ka j]
theorem TE {h:AK}:∀ j,(WX h j).length=A0 h
 | 0=>by simp[WX,Ka]
 | j+1=>by
   unfold WX;split
   · rw[Ka,TE j]
   · exact TE j
def Iv (h:AK):Nat→List Int×List Ai×Bool
 | 0=>(BB (Aa h),[],true)
 | i+1 =>
   if (Iv h i).2.2=false then Iv h i
   else if AX (ndL h) (Aa h+i)=false then ((Iv h i).1++[0],(Iv h i).2.1,true)
   else (fun ls:List Int=>(fun c:List Ai×List Int×Bool=>if c.2.2=false then ((Iv h i).1++[0],c.1,false) else (((Iv h i).1++[0]).set (Aa h+i) (A1 c.2.1 0),c.1,true))
    (iE (Ez h) (Hd (WW (Ap (Ez h) (Iv h i).2.1)) ls ls.length).length (Iv h i).2.1 (Hd (WW (Ap (Ez h) (Iv h i).2.1)) ls ls.length))) ((Fa h (Aa h+i)).map (Aq ((Iv h i).1++[0])))
def Rk (x:AK):AK:=if (Iv (CB x) (CB x).2.2.1.length).2.2=false then CB x
 else Ia ((CB x).1,(CB x).2.1.map (Dr (Iv (CB x) (CB x).2.2.1.length).1),(Iv (CB x) (CB x).2.2.1.length).2.1,(CB x).2.2.2.map (Aq (Iv (CB x) (CB x).2.2.1.length).1))
theorem FN {x:AK}:Aa (Ez x)=Aa x:=by unfold Aa Ez;simp
section
variable {h:AK} (hok:Al h=true)
include hok
theorem Sr {i:Nat} (hi:i<h.2.2.1.length) {to:List Int} {an:List Ai} (hl:to.length=Aa h+i) (h3:an.length≤300) (hp:Jw (Aa h+an.length) to) (ha:GR (Aa h) an) (lv:List Int) :
 SK (Ez h) an (Hd lv ((Fa h (Aa h+i)).map (Aq (to++[0]))) ((Fa h (Aa h+i)).map (Aq (to++[0]))).length):=by
 obtain⟨hF,hgl,hNi,hno⟩:=A7 hok;have hN:=Bp h;have hc:=Ug hok (v:=Aa h+i) (by omega) (by omega);have hn:=YX hok (v:=Aa h+i) (by omega) (by omega);have hf0:0<Aa h:=by unfold Aa;omega
 have hp1:Jw (Aa h+an.length) (to++[0]):=fun y hy=>by
  rcases ACB.1 hy with hy|hy
  · exact hp y hy
  · rw[zz9.1 hy];omega
 have hlen:1≤((Fa h (Aa h+i)).map (Aq (to++[0]))).length:=by
  rw[AB7];exact List.length_pos_iff.2 hn
 refine⟨h3,by rw[FN];exact ha,fun y hy=>?_,(PV _).2 hlen⟩;obtain⟨l,hl2,rfl⟩:=ABc.1 (QS _ (Nat.le_refl _) y hy);rw[FN];exact Bn (BH hp1 (by omega) _) (by omega)
theorem Yb:∀ i,i≤h.2.2.1.length→Jr (Aa h) (Aa h+i) (Iv h i)
 | 0,_=>⟨fun _=>CO,by show (BB (Aa h)).length≤_;rw[CO];omega,HB (by simp[Iv]),by simp[Iv],by simp[Iv,GR,BR]⟩
 | i+1,hi=>by
   have ih:=Yb i (by omega);have hf0:0<Aa h:=by unfold Aa;omega
   unfold Iv;by_cases hb:(Iv h i).2.2=false
   · rw[if_pos hb];exact⟨fun e=>(by rw[hb] at e;cases e),by have:=ih.le;omega,ih.pl,ih.an,ih.ok⟩
   rw[if_neg hb];have hbt:(Iv h i).2.2=true:=by simpa using hb
   have hl:=ih.len hbt;have hle:=ih.le;have hpl:=ih.pl;have h3:=ih.an;have ho:=ih.ok;generalize (Iv h i).1=to at *;generalize (Iv h i).2.1=an at *
   have hp1:Jw (Aa h+an.length) (to++[0]):=fun y hy=>by
    rcases ACB.1 hy with hy|hy
    · exact hpl y hy
    · rw[zz9.1 hy];omega
   split
   · exact⟨fun _=>by simp;omega,by simp;omega,hp1,h3,ho⟩
   · have hL:=Sr hok (i:=i) (by omega) hl h3 hpl ho (WW (Ap (Ez h) an));simp only;generalize (Fa h (Aa h+i)).map (Aq (to++[0]))=ls at *;generalize Hd (WW (Ap (Ez h) an)) ls ls.length=l0 at *;obtain⟨c1,c2⟩:=cX (z:=Ez h) (by rw[FN];exact hf0) l0.length an l0 hL (by omega);generalize iE (Ez h) l0.length an l0=c at *;have e1:=c1.ok;rw[FN] at e1;have hp2:Jw (Aa h+c.1.length) (to++[0]):=Hi hp1 (by omega);split
     · exact⟨fun e=>(by cases e),by simp;omega,hp2,c1.an,e1⟩
     · refine⟨fun _=>by simp;omega,by simp;omega,fun y hy=>?_,c1.an,e1⟩;rcases List.mem_or_eq_of_mem_set hy with hy|rfl
       · exact hp2 y hy
       · have:=c1.ls _ (Tv (l:=c.2.1) (k:=0) (by have:=c1.ne;omega));rw[FN] at this;exact this
end
theorem mM {x:AK} (hok:Al x=true):Al (Rk x)=true:=by
 have hh:=J3 hok;unfold Rk;split
 · exact hh
 · have I:=Yb hh _ (Nat.le_refl _);exact Tl (JH hh I.an I.pl I.ok)
end Go.Proofs.YtnjedabjbeipeaaGreat
