/-
  Small nets with many flip-flops, as they are drawn. Plain lemmas.
  Conditions: those typed in each theorem.
-/
import Derived.Test.YtnjedabjbeipeaaPa
import Derived.Test.YtnjedabjbeipeaaRi
namespace Go.Proofs.Ytnjedabjbeipeaa
open Go.RowKit Go.ChangeShapes Go.WideShapes
set_option linter.unusedSimpArgs false
set_option linter.unusedVariables false
set_option maxRecDepth 100000
set_option maxHeartbeats 10000000
def IM (c:EE):Int:=1+AP c 4
def Z3 (c:EE):EE:=Ai (Ai (Ai c 4) 4) 15
def K7 (c:EE):Nat:=(AP (Ai c 4) 4).toNat
def Ly (c:EE):Nat:=(AP (Ai (Ai c 4) 4) 15).toNat
def aR (c:EE):Nat:=1+(IM c).toNat+K7 c
def Mm (c:EE):Int:=2*((aR c:Int)+Ly c)
def QP (c:EE):EE×List Ah:=VQ (aR c) (Z3 c) (Ly c)
def Jv (c:EE):EE×List Dl:=NQ (Mm c) (QP c).1 (K7 c)
def UJ (c:EE):EE×List Int:=H7 (Mm c) (Ai (Jv c).1 4) ((AP (Jv c).1 4).toNat+1)
def GG (c:EE):AB:=(IM c,(Jv c).2,(QP c).2,(UJ c).2)
def ayC (c:EE):EE:=(UJ c).1
theorem OE (c:EE):(1≤IM c∧IM c≤4)∧K7 c≤3∧Ly c≤14:=by
 have b1:=Bc c (n:=4) (by omega);have b2:=Bc (Ai c 4) (n:=4) (by omega);have b3:=Bc (Ai (Ai c 4) 4) (n:=15) (by omega);unfold IM K7 Ly;omega
theorem Pk {c:EE}:Aj (GG c)=true:=by
 obtain⟨h1,h2,h3⟩:=OE c;have hF:aR c=1+(IM c).toNat+K7 c:=rfl;have ht:Mm c=2*((aR c:Int)+Ly c):=rfl;have lS:(Jv c).2.length=K7 c:=HU _;have lA:(QP c).2.length=Ly c:=Km _;have lO:(UJ c).2.length=(AP (Jv c).1 4).toNat+1:=I5 _;have b4:=Bc (Jv c).1 (n:=4) (by omega)
 have hN:AR (GG c)=aR c+Ly c:=by
  show 1+(IM c).toNat+(Jv c).2.length+(QP c).2.length=_;omega
 have hG:Aa (GG c)=aR c:=by
  show 1+(IM c).toNat+(Jv c).2.length=_;omega
 have hS:=UT (top:=Mm c) (c:=(QP c).1) (by omega) (K7 c);have hO:=UQ (top:=Mm c) (c:=Ai (Jv c).1 4) (by omega) ((AP (Jv c).1 4).toNat+1);refine VS (by show 0≤IM c∧IM c≤20;omega) (by show (Jv c).2.length≤12;omega) (by show (QP c).2.length≤300;omega) (by show (UJ c).2.length≤16;omega) (fun s hs=>(hS s hs).1) (fun y hy=>?_) (fun s hs y hy=>?_) (OK fun k a ha=>?_)
 · have:=hO y hy;rw[hN];omega
 · have:=(hS s hs).2 y hy;rw[hN];omega
 · rw[hG,Nat.zero_add];exact eW (F:=aR c) (c:=Z3 c) (by omega) (Ly c) k a ha
section
variable {x:AB} {v:Nat}
end
section
variable {lv:List Int} {lit:Int} {xs:List Int}
end
structure AB6 (z:AB) (ns:List Ah) (l:List Int):Prop where
 an:ns.length≤300
 ok:ES (Aa z) ns
 ls:∀ y∈l,0≤y∧y<2*((Aa z:Int)+ns.length)
 ne:1≤l.length
theorem pS {l:List Int} {k:Nat} (h:k<l.length):Av l (k:Int)∈l:=by
 unfold Av;rw[Int.toNat_natCast,zz0 h];exact AB7 _
section
variable {h:AB} (hok:Aj h=true)
include hok
end
def H1 (n:Nat) (c:Ah):Bool:=rng c.1 0 ((2 ^ n:Nat) - 1:Int)&&(rng c.2 0 ((2 ^ n:Nat) - 1:Int)&&(DJ c.2 c.1==0))
def D0 (n:Nat) (L:List Ah):Bool:=decide (L.length≤81)&&L.all (H1 n)
def nC (t:TypeId) (i k:Nat):V:=if i=0 then .nil t else .ref k
def nS (t:TypeId) (i:Nat) (es:List (List D)):List Ag:=if i=0 then [] else [.arr t true es]
abbrev zG:Ag:=.var 28 [.d (.int .i64 0),.nil 31,.nil 60,.nil 3]
def eV (G:AB):List Ag:=if G.2.1.length=0 then [] else [.arr 31 true (G.2.1.map A7)]
def mW (G:AB):V:=if G.2.1.length=0 then .nil 31 else .ref 1
def kQ (G:AB):List Ag:=if G.2.2.1.length=0 then [] else [.arr 60 true (G.2.2.1.map Ao)]
def lL (G:AB):V:=if G.2.2.1.length=0 then .nil 60 else .ref (1+(eV G).length)
theorem P3 {v n:Int} (h:0≤v∧v<2*n):0≤Ad v∧Ad v<2*n:=by
 have:=AU h.1;omega
theorem JS {v q n:Int} (h:0≤v∧v<2*n) (hn:n≤1000) (hq:q=0∨q=1):0≤Bd v q∧Bd v q<2*n:=by
 rcases hq with rfl|rfl
 · rw[Hl h.1 (by omega)];exact h
 · rw[A8 h.1 (by omega)];exact P3 h
def FN (lits:List Int) (c:Ah) (k:Nat):Int:=Bd (Bd (Av lits k) 1) (Cp (DB c.2 (k:Int)) 1)
def GW (fa:Int) (lits:List Int) (c:Ah) (an0:List Ah):Nat→List Ah×Int×Bool
 | 0=>(an0,1,true)
 | k+1 =>
   if (GW fa lits c an0 k).2.2=false then GW fa lits c an0 k
   else if Cp (DB c.1 (k:Int)) 1=1 then
    (if AG fa (GW fa lits c an0 k).1 (GW fa lits c an0 k).2.1 (FN lits c k)<0 then ((GW fa lits c an0 k).1,(GW fa lits c an0 k).2.1,false)
    else (Ak (GW fa lits c an0 k).1 (GW fa lits c an0 k).2.1 (FN lits c k),AG fa (GW fa lits c an0 k).1 (GW fa lits c an0 k).2.1 (FN lits c k),true))
   else GW fa lits c an0 k
def GU (fa:Int) (lits:List Int) (cs:List Ah) (an0:List Ah):Nat→List Ah×Int×Bool
 | 0=>(an0,0,true)
 | i+1 =>
   if (GU fa lits cs an0 i).2.2=false then GU fa lits cs an0 i
   else (fun q:List Ah×Int×Bool =>
    if q.2.2=false then (q.1,0,false)
    else if E4 fa q.1 (GU fa lits cs an0 i).2.1 q.2.1<0 then (q.1,0,false)
    else (Ak q.1 (Ad (GU fa lits cs an0 i).2.1) (Ad q.2.1),E4 fa q.1 (GU fa lits cs an0 i).2.1 q.2.1,true))
    (GW fa lits ((cs[i]?).getD (0,0)) (GU fa lits cs an0 i).1 lits.length)
structure nM (fa:Int) (n0:Nat) (s:List Ah×Int×Bool):Prop where
 le:n0≤s.1.length
 an:s.1.length≤300
 ok:ES fa s.1
 rng:0≤s.2.1∧s.2.1<2*(fa+s.1.length)
section
variable {fa:Int} {lits:List Int} {an0:List Ah} {n0:Nat}
theorem M9 {c:Ah} {k:Nat} {n:Int} (hk:k<lits.length) (hl:∀ y∈lits,0≤y∧y<2*n) (hn:n≤1000):0≤FN lits c k∧FN lits c k<2*n:=by
 have h1:=hl _ (pS hk);have h2:=JS h1 hn (.inr rfl);have h3:=Fm (DB c.2 (k:Int));exact JS h2 hn (by omega)
theorem O3 (hf:0<fa∧fa≤100) {c:Ah} (h:nM fa n0 (an0,0,true)) (hl:∀ y∈lits,0≤y∧y<2*(fa+(n0:Int))):∀ k,k≤lits.length→nM fa n0 (GW fa lits c an0 k)
 | 0,_=>⟨h.le,h.an,h.ok,by show 0≤(1:Int)∧(1:Int)<2*(fa+an0.length);omega⟩
 | k+1,hk=>by
   have ih:=O3 hf (c:=c) h hl k (by omega);unfold GW;generalize GW fa lits c an0 k=s at *;obtain⟨i1,i2,i3,i4⟩:=ih;have hr:=M9 (c:=c) (k:=k) (n:=fa+s.1.length) hk (fun y hy=>by have:=hl y hy;omega) (by omega);split
   · exact⟨i1,i2,i3,i4⟩
   split
   · split
     · exact⟨i1,i2,i3,i4⟩
     · rename_i hv;have hl2:=AM (an:=s.1) (a:=s.2.1) (b:=FN lits c k);have hr2:=BA (fa:=fa) (an:=s.1) (a:=s.2.1) (b:=FN lits c k) (by omega) i4 hr;exact⟨by simp only;omega,Bv i2,Hf i3 i4 hr,by simp only;omega⟩
   · exact⟨i1,i2,i3,i4⟩
theorem Nr (hf:0<fa∧fa≤100) {cs:List Ah} (h:nM fa n0 (an0,0,true)) (hl:∀ y∈lits,0≤y∧y<2*(fa+(n0:Int))):∀ i,nM fa n0 (GU fa lits cs an0 i)
 | 0=>h
 | i+1=>by
   have ih:=Nr hf (cs:=cs) h hl i;unfold GU;generalize GU fa lits cs an0 i=s at *;split
   · exact ih
   have hp:=O3 (c:=(cs[i]?).getD (0,0)) (an0:=s.1) (n0:=s.1.length) (lits:=lits) hf ⟨Nat.le_refl _,ih.an,ih.ok,by simp only;omega⟩ (fun y hy=>by have:=hl y hy;have:=ih.le;omega) lits.length (Nat.le_refl _);generalize GW fa lits ((cs[i]?).getD (0,0)) s.1 lits.length=q at *;obtain⟨p1,p2,p3,p4⟩:=hp;obtain⟨i1,i2,i3,i4⟩:=ih;simp only;split
   · exact⟨by simp only;omega,p2,p3,by simp only;omega⟩
   split
   · exact⟨by simp only;omega,p2,p3,by simp only;omega⟩
   · rename_i hv;have r1:0≤s.2.1∧s.2.1<2*(fa+q.1.length):=by omega
     have hl2:=AM (an:=q.1) (a:=Ad s.2.1) (b:=Ad q.2.1);have hr2:=GZ (fa:=fa) (an:=q.1) (a:=s.2.1) (b:=q.2.1) (by omega) r1 p4;exact⟨by simp only;omega,Bv p2,Hf p3 (P3 r1) (P3 p4),by simp only;omega⟩
end
def ED (h:AB) (i0:Nat) (c:List Int) (cov:List Ah) (fl:Int):Nat→List Int×List Ah×Bool
 | 0=>(BQ (Aa h),[],true)
 | i+1 =>
   if (ED h i0 c cov fl i).2.2=false then ED h i0 c cov fl i
   else if i=i0 then
    (fun q:List Ah×Int×Bool=>if D0 c.length cov=false∨q.2.2=false then ((ED h i0 c cov fl i).1,(ED h i0 c cov fl i).2.1,false) else ((ED h i0 c cov fl i).1++[Bd q.2.1 fl],q.1,true))
      (GU (Aa h) (c.map (Av (ED h i0 c cov fl i).1)) cov (ED h i0 c cov fl i).2.1 cov.length)
   else if AG (Aa h) (ED h i0 c cov fl i).2.1 (Ap (ED h i0 c cov fl i).1 (Al h (Aa h+i)).1) (Ap (ED h i0 c cov fl i).1 (Al h (Aa h+i)).2)<0 then ((ED h i0 c cov fl i).1,(ED h i0 c cov fl i).2.1,false)
   else ((ED h i0 c cov fl i).1++[AG (Aa h) (ED h i0 c cov fl i).2.1 (Ap (ED h i0 c cov fl i).1 (Al h (Aa h+i)).1) (Ap (ED h i0 c cov fl i).1 (Al h (Aa h+i)).2)],
    Ak (ED h i0 c cov fl i).2.1 (Ap (ED h i0 c cov fl i).1 (Al h (Aa h+i)).1) (Ap (ED h i0 c cov fl i).1 (Al h (Aa h+i)).2),true)
theorem Qm {h:AB} (hok:Aj h=true) {i0:Nat} {c:List Int} {cov:List Ah} {fl:Int} (hfl:fl=0∨fl=1):∀ i,i≤h.2.2.1.length→NC (Aa h) (Aa h+i) (ED h i0 c cov fl i)
 | 0,_=>⟨fun _=>EO,(by show (BQ (Aa h)).length≤_;rw[EO];omega),Kh (by simp[ED]),by simp[ED],by simp[ED,ES,BO]⟩
 | i+1,hi=>by
   have ih:=Qm hok (i0:=i0) (c:=c) (cov:=cov) hfl i (by omega);obtain⟨hF,hgl,hNi,hno⟩:=Bz hok;have hN:=Bn h;obtain⟨⟨n1,n2,n3,n4,n5,n6⟩,-,-,-⟩:=Ax hok;obtain⟨-,a1,a2,a3,a4,a5,a6⟩:=Cy hok (v:=Aa h+i) (by omega) (by omega);have hf0:0<Aa h:=by unfold Aa;omega
   have hf1:Aa h≤40:=by unfold Aa;omega
   unfold ED;generalize ED h i0 c cov fl i=s at *;obtain⟨to,an,b⟩:=s;simp only at ih ⊢;split
   · rename_i hb;subst hb;exact⟨fun e=>(by cases e),(by have:=ih.le;simp only at this;simp only;omega),ih.pl,ih.an,ih.ok⟩
   rename_i hb;have hbt:b=true:=by simpa using hb
   subst hbt;have hl:=ih.len rfl;have hpl:=ih.pl;have h3:=ih.an;have ho:=ih.ok;simp only at hl hpl h3 ho;split
   · have hlr:∀ y∈c.map (Av to),0≤y∧y<2*((Aa h:Int)+(an.length:Int)):=fun y hy=>by
      obtain⟨z,_,rfl⟩:=ACP.1 hy;exact Bw hpl (by omega) z
     have hS:=Nr (fa:=Aa h) (lits:=c.map (Av to)) (an0:=an) (n0:=an.length) (cs:=cov) (by omega) ⟨Nat.le_refl _,h3,ho,by simp only;omega⟩ hlr cov.length;generalize GU (Aa h) (c.map (Av to)) cov an cov.length=q at *;obtain⟨p1,p2,p3,p4⟩:=hS;split
     · exact⟨fun e=>(by cases e),(by simp only;omega),hpl,h3,ho⟩
     · have hx:=JS p4 (by omega) hfl;refine⟨fun _=>(by simp;omega),(by simp;omega),fun y hy=>?_,p2,p3⟩;rcases ACE.1 hy with hy|hy
       · have:=hpl y hy;simp only;omega
       · rw[zz9.1 hy];exact hx
   · have r1:=Bf (l:=(Al h (Aa h+i)).1) (Bw hpl (by omega) _) (by omega);have r2:=Bf (l:=(Al h (Aa h+i)).2) (Bw hpl (by omega) _) (by omega);split
     · exact⟨fun e=>(by cases e),(by simp only;omega),hpl,h3,ho⟩
     · rename_i hv;have hl2:=AM (an:=an) (a:=Ap to (Al h (Aa h+i)).1) (b:=Ap to (Al h (Aa h+i)).2);have hr2:=BA (fa:=(Aa h:Int)) (an:=an) (by omega) r1 r2;refine⟨fun _=>(by simp;omega),(by simp;omega),fun y hy=>?_,Bv h3,Hf ho r1 r2⟩;rcases ACE.1 hy with hy|hy
       · have:=hpl y hy;simp only;omega
       · rw[zz9.1 hy];simp only;omega
theorem Ng {h:AB} {i0:Nat} {c:List Int} {cov:List Ah} {fl:Int} {i:Nat} (hf:(ED h i0 c cov fl i).2.2=false):∀ d,(ED h i0 c cov fl (i+d)).2.2=false
 | 0=>hf
 | d+1=>by
   have ih:=Ng hf d;show (ED h i0 c cov fl (i+d+1)).2.2=false;rw[ED,if_pos ih];exact ih
theorem PT {h:AB} (hok:Aj h=true) {i:Nat} (hk:Aa h+i<AR h) {q:Nat} {c:List Int} (hq:(Dz h (Aa h+i))[q]? = some c) (hm:Qx h c i=true):∀ y∈c,0≤y∧y<((Aa h+i:Nat):Int):=fun y hy=>by
 have hg:=(Hm hok _ hk).1 c (zz6 hq);obtain⟨u,rfl,hu⟩:=hg.cone y hy;have hle:=Mt.le (EM hok) hu hk
 have hne:u≠Aa h+i:=fun e=>by
  simp only[Qx,Bool.and_eq_true,Bool.not_eq_true',Ob,decide_eq_false_iff_not] at hm;exact hm.1 (by rw[←e];exact hy)
 omega
end Go.Proofs.Ytnjedabjbeipeaa
