/-
  Cubes and covers as data. Plain lemmas, about no function of the program.
  Conditions: those typed in each theorem.
-/
import Derived.Test.YtnjedabjbeipeaaGreatTk
namespace Go.Proofs.YtnjedabjbeipeaaGreat
open Go.RowKit Go.ChangeShapes Go.WideShapes
set_option linter.unusedSimpArgs false
set_option linter.unusedVariables false
set_option maxRecDepth 100000
set_option maxHeartbeats 10000000
theorem K3 {n:Nat} (h:n≤16):ES 1 (n:Int)=((2 ^ n:Nat):Int):=by
 rw[Nx (by omega) (by omega),Int.one_mul];simp
theorem JF {n:Nat} (h:n≤4):1≤2 ^ n∧2 ^ n≤16:=⟨Nat.one_le_two_pow,qF (by decide) h⟩
def Qk (b:Int) (c:Ai) (i:Nat):Bool:=(C0 (i:Int) c.1==c.2)&&(C0 (DD b (i:Int)) 1==0)
def JQ (n:Nat) (b:Int) (c:Ai):Bool:=(List.range (2 ^ n)).all fun i=>!Qk b c i
theorem mN {n:Nat} {b:Int} {c:Ai} {i:Nat} (hi:i<2 ^ n) (h:Qk b c i=true):JQ n b c=false:=by
 unfold JQ;rw[List.all_eq_false];exact⟨i,Gq.2 hi,by simp[h]⟩
theorem eY {n:Nat} {b:Int} {c:Ai} (h:∀ j,j<2 ^ n→Qk b c j=false):JQ n b c=true:=by
 unfold JQ;rw[GA];intro j hj;simp[h j (Gq.1 hj)]
def U2 (c:Ai) (k:Nat):Ai:=(FK c.1 (ES 1 (k:Int)),FK c.2 (ES 1 (k:Int)))
def qU (n:Nat) (b:Int) (c:Ai) (k:Nat):Bool:=!((C0 (DD c.1 (k:Int)) 1==1)&&JQ n b (U2 c k))
def RF (n:Nat) (b:Int) (c:Ai):Nat→Bool
 | 0=>true
 | k+1=>RF n b c k&&qU n b c k
def iC (n:Nat) (b:Int) (c:Ai):Bool:=(FK c.2 c.1==0)&&(JQ n b c&&RF n b c n)
def UZ (n:Nat) (b:Int) (ca:Nat):Nat→List Ai
 | 0=>[]
 | v+1=>if iC n b ((ca:Int),(v:Int))=true then UZ n b ca v++[((ca:Int),(v:Int))] else UZ n b ca v
def Xy (n:Nat) (b:Int):Nat→List Ai
 | 0=>[]
 | ca+1=>Xy n b ca++UZ n b ca (2 ^ n)
def HZ (n:Nat) (b:Int):List Ai:=Xy n b (2 ^ n)
theorem Us {n:Nat} {b:Int} {ca:Nat}:∀ v,(UZ n b ca v).length≤v
 | 0=>by simp[UZ]
 | v+1=>by
   have ih:=Us (n:=n) (b:=b) (ca:=ca) v;unfold UZ;split
   · simp;omega
   · omega
theorem Po {n:Nat} {b:Int} (h:n≤4):∀ ca,(Xy n b ca).length≤16*ca
 | 0=>by simp[Xy]
 | ca+1=>by
   have ih:=Po (b:=b) h ca;have h2:=Us (n:=n) (b:=b) (ca:=ca) (2 ^ n);have:=JF h;unfold Xy;simp only[EM];omega
def ZM (n:Nat) (c:Ai):Prop:=0≤c.1∧c.1<16∧0≤c.2∧c.2<16
theorem Uf {n:Nat} {b:Int} {ca:Nat} (hc:ca<16):∀ v,v≤16→∀ c∈UZ n b ca v,ZM n c
 | 0,_,c,h=>by simp[UZ] at h
 | v+1,hv,c,h=>by
   unfold UZ at h;split at h
   · rcases CO.1 h with h|h
     · exact Uf hc v (by omega) c h
     · rw[Hz.1 h];exact⟨by simp only;omega,by simp only;omega,by simp only;omega,by simp only;omega⟩
   · exact Uf hc v (by omega) c h
theorem Zb {n:Nat} {b:Int} (h:n≤4):∀ ca,ca≤16→∀ c∈Xy n b ca,ZM n c
 | 0,_,c,hc=>by simp[Xy] at hc
 | ca+1,hca,c,hc=>by
   unfold Xy at hc;rcases CO.1 hc with hc|hc
   · exact Zb h ca (by omega) c hc
   · exact Uf (by omega) _ (JF h).2 c hc
def Vm (cs:List Ai) (skip:Int) (i k:Nat):Bool:=!((k:Int)==skip)&&(C0 (i:Int) ((cs[k]?).getD (0,0)).1==((cs[k]?).getD (0,0)).2)
def fJ (cs:List Ai) (skip:Int) (i:Nat):Bool:=(List.range cs.length).any (Vm cs skip i)
def JX (cs:List Ai) (skip:Int):Nat→Int
 | 0=>0
 | i+1=>if fJ cs skip i=true then JX cs skip i+ES 1 (i:Int) else JX cs skip i
theorem Wr {cs:List Ai} {skip:Int}:∀ i,i≤16→0≤JX cs skip i∧JX cs skip i<((2 ^ i:Nat):Int)
 | 0,_=>by simp[JX]
 | i+1,hi=>by
   have ih:=Wr (cs:=cs) (skip:=skip) i (by omega);have hp:2 ^ (i+1)=2*2 ^ i:=by rw[Nat.pow_succ];omega
   unfold JX;rw[K3 (by omega),hp];split<;>omega
theorem nE {cs:List Ai} {skip:Int} {i k:Nat} (hk:k<cs.length) (h:Vm cs skip i k=true):fJ cs skip i=true:=List.any_eq_true.2 ⟨k,Gq.2 hk,h⟩
theorem pT {cs:List Ai} {skip:Int} {i:Nat} (h:∀ k,k<cs.length→Vm cs skip i k=false):fJ cs skip i=false:=by
 unfold fJ;rw[List.any_eq_false];intro k hk;simp[h k (Gq.1 hk)]
def oW (n:Nat) (b:Int):Nat→List Ai→List Ai
 | 0,L=>L
 | k+1,L=>oW n b k (if JX L (k:Int) (2 ^ n)=b then L.take k++L.drop (k+1) else L)
def Hl (n:Nat) (b:Int):List Ai:=oW n b (HZ n b).length (HZ n b)
theorem NA {n:Nat} {b:Int} {p:Ai→Prop}:∀ (k:Nat) (L:List Ai),(∀ c∈L,p c)→(oW n b k L).length≤L.length∧∀ c∈oW n b k L,p c
 | 0,L,h=>⟨Nat.le_refl _,h⟩
 | k+1,L,h=>by
   unfold oW;split
   · have h2:∀ c∈L.take k++L.drop (k+1),p c:=fun c hc=>by
      rcases CO.1 hc with hc|hc
      · exact h c (List.mem_of_mem_take hc)
      · exact h c (List.mem_of_mem_drop hc)
     obtain⟨q1,q2⟩:=NA (n:=n) (b:=b) k _ h2;refine⟨?_,q2⟩;simp only[EM,Gf,List.length_drop] at q1;omega
   · exact NA k L h
theorem PP {n:Nat} {b:Int} (h:n≤4):(Hl n b).length≤256∧∀ c∈Hl n b,ZM n c:=by
 obtain⟨q1,q2⟩:=NA (n:=n) (b:=b) (p:=ZM n) (HZ n b).length (HZ n b) (Zb h _ (JF h).2);have h1:=Po (b:=b) h (2 ^ n);have h2:=(JF h).2;refine⟨?_,q2⟩
 have:(HZ n b).length≤256:=by
  show (Xy n b (2 ^ n)).length≤256;generalize 2 ^ n=N at *;omega
 show (oW n b (HZ n b).length (HZ n b)).length≤256;omega
def Ld (n:Nat) (c:Ai):Bool:=DX c.1 0 ((2 ^ n:Nat) - 1:Int)&&(DX c.2 0 ((2 ^ n:Nat) - 1:Int)&&(FK c.2 c.1==0))
def Cm (n:Nat) (L:List Ai):Bool:=decide (L.length≤81)&&L.all (Ld n)
def NV (c:Ai):Nat→Int
 | 0=>0
 | k+1=>NV c k+C0 (DD c.1 (k:Int)) 1
def L4 (n:Nat) (L:List Ai):Nat→Int
 | 0=>0
 | i+1=>L4 n L i+NV ((L[i]?).getD (0,0)) n
def IZ (n:Nat) (L:List Ai):Int:=if Cm n L=true then L4 n L L.length else -1
theorem L8 {c:Ai}:∀ k,0≤NV c k∧NV c k≤(k:Int)
 | 0=>by simp[NV]
 | k+1=>by
   have ih:=L8 (c:=c) k;have h:=CD (DD c.1 (k:Int));unfold NV;omega
theorem Wy {n:Nat} {L:List Ai}:∀ i,0≤L4 n L i∧L4 n L i≤(n:Int)*i
 | 0=>by simp[L4]
 | i+1=>by
   have ih:=Wy (n:=n) (L:=L) i;have h:=L8 (c:=(L[i]?).getD (0,0)) n;have e:(n:Int)*((i+1:Nat):Int)=(n:Int)*i+n:=by rw[Int.natCast_add,Int.mul_add];simp
   unfold L4;rw[e];omega
theorem Rg {v n:Int} (h:0≤v∧v<2*n):0≤Af v∧Af v<2*n:=by
 have:=Bd h.1;omega
theorem GZ {v q n:Int} (h:0≤v∧v<2*n) (hn:n≤1000) (hq:q=0∨q=1):0≤Bm v q∧Bm v q<2*n:=by
 rcases hq with rfl|rfl
 · rw[QJ h.1 (by omega)];exact h
 · rw[Bq h.1 (by omega)];exact Rg h
def JP (lits:List Int) (c:Ai) (k:Nat):Int:=Bm (Bm (A3 lits k) 1) (C0 (DD c.2 (k:Int)) 1)
def I7 (fa:Int) (lits:List Int) (c:Ai) (an0:List Ai):Nat→List Ai×Int×Bool
 | 0=>(an0,1,true)
 | k+1 =>
   if (I7 fa lits c an0 k).2.2=false then I7 fa lits c an0 k
   else if C0 (DD c.1 (k:Int)) 1=1 then
    (if AZ fa (I7 fa lits c an0 k).1 (I7 fa lits c an0 k).2.1 (JP lits c k)<0 then ((I7 fa lits c an0 k).1,(I7 fa lits c an0 k).2.1,false)
    else (Ar (I7 fa lits c an0 k).1 (I7 fa lits c an0 k).2.1 (JP lits c k),AZ fa (I7 fa lits c an0 k).1 (I7 fa lits c an0 k).2.1 (JP lits c k),true))
   else I7 fa lits c an0 k
def H5 (fa:Int) (lits:List Int) (cs:List Ai) (an0:List Ai):Nat→List Ai×Int×Bool
 | 0=>(an0,0,true)
 | i+1 =>
   if (H5 fa lits cs an0 i).2.2=false then H5 fa lits cs an0 i
   else (fun q:List Ai×Int×Bool =>
    if q.2.2=false then (q.1,0,false)
    else if Gw fa q.1 (H5 fa lits cs an0 i).2.1 q.2.1<0 then (q.1,0,false)
    else (Ar q.1 (Af (H5 fa lits cs an0 i).2.1) (Af q.2.1),Gw fa q.1 (H5 fa lits cs an0 i).2.1 q.2.1,true))
    (I7 fa lits ((cs[i]?).getD (0,0)) (H5 fa lits cs an0 i).1 lits.length)
structure nT (fa:Int) (n0:Nat) (s:List Ai×Int×Bool):Prop where
 le:n0≤s.1.length
 an:s.1.length≤300
 ok:G5 fa s.1
 DX:0≤s.2.1∧s.2.1<2*(fa+s.1.length)
section
variable {fa:Int} {lits:List Int} {an0:List Ai} {n0:Nat}
theorem Tt {c:Ai} {k:Nat} {n:Int} (hk:k<lits.length) (hl:∀ y∈lits,0≤y∧y<2*n) (hn:n≤1000):0≤JP lits c k∧JP lits c k<2*n:=by
 have h1:=hl _ (TQ hk);have h2:=GZ h1 hn (.inr rfl);have h3:=CD (DD c.2 (k:Int));exact GZ h2 hn (by omega)
theorem YW (hf:0<fa∧fa≤100) {c:Ai} (h:nT fa n0 (an0,0,true)) (hl:∀ y∈lits,0≤y∧y<2*(fa+(n0:Int))):∀ k,k≤lits.length→nT fa n0 (I7 fa lits c an0 k)
 | 0,_=>⟨h.le,h.an,h.ok,by show 0≤(1:Int)∧(1:Int)<2*(fa+an0.length);omega⟩
 | k+1,hk=>by
   have ih:=YW hf (c:=c) h hl k (by omega);unfold I7;generalize I7 fa lits c an0 k=s at *;obtain⟨i1,i2,i3,i4⟩:=ih;have hr:=Tt (c:=c) (k:=k) (n:=fa+s.1.length) hk (fun y hy=>by have:=hl y hy;omega) (by omega);split
   · exact⟨i1,i2,i3,i4⟩
   split
   · split
     · exact⟨i1,i2,i3,i4⟩
     · rename_i hv;have hl2:=A4 (an:=s.1) (a:=s.2.1) (b:=JP lits c k);have hr2:=BR (fa:=fa) (an:=s.1) (a:=s.2.1) (b:=JP lits c k) (by omega) i4 hr;exact⟨by simp only;omega,Bv i2,GL i3 i4 hr,by simp only;omega⟩
   · exact⟨i1,i2,i3,i4⟩
theorem QU (hf:0<fa∧fa≤100) {cs:List Ai} (h:nT fa n0 (an0,0,true)) (hl:∀ y∈lits,0≤y∧y<2*(fa+(n0:Int))):∀ i,nT fa n0 (H5 fa lits cs an0 i)
 | 0=>h
 | i+1=>by
   have ih:=QU hf (cs:=cs) h hl i;unfold H5;generalize H5 fa lits cs an0 i=s at *;split
   · exact ih
   have hp:=YW (c:=(cs[i]?).getD (0,0)) (an0:=s.1) (n0:=s.1.length) (lits:=lits) hf ⟨Nat.le_refl _,ih.an,ih.ok,by simp only;omega⟩ (fun y hy=>by have:=hl y hy;have:=ih.le;omega) lits.length (Nat.le_refl _);generalize I7 fa lits ((cs[i]?).getD (0,0)) s.1 lits.length=q at *;obtain⟨p1,p2,p3,p4⟩:=hp;obtain⟨i1,i2,i3,i4⟩:=ih;simp only;split
   · exact⟨by simp only;omega,p2,p3,by simp only;omega⟩
   split
   · exact⟨by simp only;omega,p2,p3,by simp only;omega⟩
   · rename_i hv;have r1:0≤s.2.1∧s.2.1<2*(fa+q.1.length):=by omega
     have hl2:=A4 (an:=q.1) (a:=Af s.2.1) (b:=Af q.2.1);have hr2:=Hw (fa:=fa) (an:=q.1) (a:=s.2.1) (b:=q.2.1) (by omega) r1 p4;exact⟨by simp only;omega,Bv p2,GL p3 (Rg r1) (Rg p4),by simp only;omega⟩
end
def H6 (h:AK) (i0:Nat) (c:List Int) (cov:List Ai) (fl:Int):Nat→List Int×List Ai×Bool
 | 0=>(BD (Aa h),[],true)
 | i+1 =>
   if (H6 h i0 c cov fl i).2.2=false then H6 h i0 c cov fl i
   else if i=i0 then
    (fun q:List Ai×Int×Bool=>if Cm c.length cov=false∨q.2.2=false then ((H6 h i0 c cov fl i).1,(H6 h i0 c cov fl i).2.1,false) else ((H6 h i0 c cov fl i).1++[Bm q.2.1 fl],q.1,true))
      (H5 (Aa h) (c.map (A3 (H6 h i0 c cov fl i).1)) cov (H6 h i0 c cov fl i).2.1 cov.length)
   else if AZ (Aa h) (H6 h i0 c cov fl i).2.1 (Aq (H6 h i0 c cov fl i).1 (Aj h (Aa h+i)).1) (Aq (H6 h i0 c cov fl i).1 (Aj h (Aa h+i)).2)<0 then ((H6 h i0 c cov fl i).1,(H6 h i0 c cov fl i).2.1,false)
   else ((H6 h i0 c cov fl i).1++[AZ (Aa h) (H6 h i0 c cov fl i).2.1 (Aq (H6 h i0 c cov fl i).1 (Aj h (Aa h+i)).1) (Aq (H6 h i0 c cov fl i).1 (Aj h (Aa h+i)).2)],
    Ar (H6 h i0 c cov fl i).2.1 (Aq (H6 h i0 c cov fl i).1 (Aj h (Aa h+i)).1) (Aq (H6 h i0 c cov fl i).1 (Aj h (Aa h+i)).2),true)
theorem XR {h:AK} (hok:Al h=true) {i0:Nat} {c:List Int} {cov:List Ai} {fl:Int} (hfl:fl=0∨fl=1):∀ i,i≤h.2.2.1.length→JS (Aa h) (Aa h+i) (H6 h i0 c cov fl i)
 | 0,_=>⟨fun _=>CV,(by show (BD (Aa h)).length≤_;rw[CV];omega),H9 (by simp[H6]),by simp[H6],by simp[H6,G5,BU]⟩
 | i+1,hi=>by
   have ih:=XR hok (i0:=i0) (c:=c) (cov:=cov) hfl i (by omega);obtain⟨hF,hgl,hNi,hno⟩:=A9 hok;have hN:=Br h;obtain⟨⟨n1,n2,n3,n4,n5,n6⟩,-,-,-⟩:=AA hok;obtain⟨-,a1,a2,a3,a4,a5,a6⟩:=C3 hok (v:=Aa h+i) (by omega) (by omega);have hf0:0<Aa h:=by unfold Aa;omega
   have hf1:Aa h≤40:=by unfold Aa;omega
   unfold H6;generalize H6 h i0 c cov fl i=s at *;obtain⟨to,an,b⟩:=s;simp only at ih ⊢;split
   · rename_i hb;subst hb;exact⟨fun e=>(by cases e),(by have:=ih.le;simp only at this;simp only;omega),ih.pl,ih.an,ih.ok⟩
   rename_i hb;have hbt:b=true:=by simpa using hb
   subst hbt;have hl:=ih.len rfl;have hpl:=ih.pl;have h3:=ih.an;have ho:=ih.ok;simp only at hl hpl h3 ho;split
   · have hlr:∀ y∈c.map (A3 to),0≤y∧y<2*((Aa h:Int)+(an.length:Int)):=fun y hy=>by
      obtain⟨z,_,rfl⟩:=CE.1 hy;exact BK hpl (by omega) z
     have hS:=QU (fa:=Aa h) (lits:=c.map (A3 to)) (an0:=an) (n0:=an.length) (cs:=cov) (by omega) ⟨Nat.le_refl _,h3,ho,by simp only;omega⟩ hlr cov.length;generalize H5 (Aa h) (c.map (A3 to)) cov an cov.length=q at *;obtain⟨p1,p2,p3,p4⟩:=hS;split
     · exact⟨fun e=>(by cases e),(by simp only;omega),hpl,h3,ho⟩
     · have hx:=GZ p4 (by omega) hfl;refine⟨fun _=>(by simp;omega),(by simp;omega),fun y hy=>?_,p2,p3⟩;rcases CO.1 hy with hy|hy
       · have:=hpl y hy;simp only;omega
       · rw[Hz.1 hy];exact hx
   · have r1:=Bp (l:=(Aj h (Aa h+i)).1) (BK hpl (by omega) _) (by omega);have r2:=Bp (l:=(Aj h (Aa h+i)).2) (BK hpl (by omega) _) (by omega);split
     · exact⟨fun e=>(by cases e),(by simp only;omega),hpl,h3,ho⟩
     · rename_i hv;have hl2:=A4 (an:=an) (a:=Aq to (Aj h (Aa h+i)).1) (b:=Aq to (Aj h (Aa h+i)).2);have hr2:=BR (fa:=(Aa h:Int)) (an:=an) (by omega) r1 r2;refine⟨fun _=>(by simp;omega),(by simp;omega),fun y hy=>?_,Bv h3,GL ho r1 r2⟩;rcases CO.1 hy with hy|hy
       · have:=hpl y hy;simp only;omega
       · rw[Hz.1 hy];simp only;omega
theorem Sv {h:AK} {i0:Nat} {c:List Int} {cov:List Ai} {fl:Int} {i:Nat} (hf:(H6 h i0 c cov fl i).2.2=false):∀ d,(H6 h i0 c cov fl (i+d)).2.2=false
 | 0=>hf
 | d+1=>by
   have ih:=Sv hf d;show (H6 h i0 c cov fl (i+d+1)).2.2=false;rw[H6,if_pos ih];exact ih
noncomputable def IA (h:AK) (i:Nat) (c:List Int):List Ai×Int :=
 if IZ c.length (Hl c.length (Fz c.length - Pw h c (Aa h+i)))<IZ c.length (Hl c.length (Pw h c (Aa h+i))) then (Hl c.length (Fz c.length - Pw h c (Aa h+i)),1)
 else (Hl c.length (Pw h c (Aa h+i)),0)
theorem Ok {h:AK} {i:Nat} {c:List Int}:(IA h i c).2=0∨(IA h i c).2=1:=by
 unfold IA;split
 · exact .inr rfl
 · exact .inl rfl
noncomputable def R9 (h:AK) (i:Nat) (c:List Int):List Int×List Ai×Bool:=H6 h i c (IA h i c).1 (IA h i c).2 h.2.2.1.length
noncomputable def R7 (h:AK) (i:Nat) (c:List Int):AK×Bool :=
 if (R9 h i c).2.2=false then (h,false) else (IE (h.1,h.2.1.map (Dx (R9 h i c).1),(R9 h i c).2.1,h.2.2.2.map (Aq (R9 h i c).1)),true)
theorem Zg {h:AK} (hok:Al h=true) {i:Nat} {c:List Int}:Al (R7 h i c).1=true:=by
 have I:=XR hok (i0:=i) (c:=c) (cov:=(IA h i c).1) (Ok (h:=h) (i:=i) (c:=c)) _ (Nat.le_refl _);unfold R7;split
 · exact hok
 · exact Uq (KN hok I.an I.pl I.ok)
noncomputable def qZ (h:AK) (i:Nat):List (List Int)→AK
 | []=>h
 | c::cs=>if (R7 h i c).2=true∧(R7 h i c).1.2.2.1.length<h.2.2.1.length then (R7 h i c).1 else qZ h i cs
theorem XQ {h:AK} (hok:Al h=true) {i:Nat}:∀ cs,Al (qZ h i cs)=true∧(qZ h i cs).2.2.1.length≤h.2.2.1.length
 | []=>⟨hok,Nat.le_refl _⟩
 | c::cs=>by
   unfold qZ;split
   · rename_i hc;exact⟨Zg hok,by omega⟩
   · exact XQ hok cs
noncomputable def mA:Nat→Nat→AK→AK
 | 0,i,h=>h
 | n+1,i,h=>if i<h.2.2.1.length then mA n (i+1) (qZ h i ((EF h (Aa h+i)).take ((EF h (Aa h+i)).length - 1))) else h
theorem gA:∀ (n i:Nat) (h:AK),Al h=true→Al (mA n i h)=true
 | 0,i,h,hok=>hok
 | n+1,i,h,hok=>by
   unfold mA;split
   · exact gA n (i+1) _ (XQ hok _).1
   · exact hok
noncomputable def LI (x:AK):AK:=if 40<(CB x).2.2.1.length then CB x else mA 41 0 (CB x)
theorem bZ {x:AK} (hok:Al x=true):Al (LI x)=true:=by
 unfold LI;split
 · exact Ke hok
 · exact gA 41 0 _ (Ke hok)
theorem Yd {h:AK} (hok:Al h=true) {i:Nat} (hk:Aa h+i<A0 h) {q:Nat} {c:List Int} (hq:(EF h (Aa h+i))[q]? = some c) (hm:LK h c i=true):∀ y∈c,0≤y∧y<((Aa h+i:Nat):Int):=fun y hy=>by
 have hg:=(Ja hok _ hk).1 c (D4 hq);obtain⟨u,rfl,hu⟩:=hg.cone y hy;have hle:=LZ.le (Ea hok) hu hk
 have hne:u≠Aa h+i:=fun e=>by
  simp only[LK,Bool.and_eq_true,Bool.not_eq_true',Li,decide_eq_false_iff_not] at hm;exact hm.1 (by rw[←e];exact hy)
 omega
end Go.Proofs.YtnjedabjbeipeaaGreat
