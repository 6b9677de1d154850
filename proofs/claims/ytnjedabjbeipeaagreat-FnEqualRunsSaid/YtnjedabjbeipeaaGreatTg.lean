/-
  Cubes and covers as data. Plain lemmas, about no function of the program.
  Conditions: those typed in each theorem.
-/
import Derived.Test.YtnjedabjbeipeaaGreatTk
namespace Go.Proofs.YtnjedabjbeipeaaGreat
open Go.RowKit Go.ChangeShapes Go.WideShapes
set_option linter.unusedSimpArgs false
set_option linter.unusedVariables false
set_option maxRecDepth 100000
set_option maxHeartbeats 10000000
theorem K3 {n:Nat} (h:n≤16):ET 1 (n:Int)=((2 ^ n:Nat):Int):=by
 rw[NB (by omega) (by omega),Int.one_mul];simp
theorem Jk {n:Nat} (h:n≤4):1≤2 ^ n∧2 ^ n≤16:=⟨Nat.one_le_two_pow,qK (by decide) h⟩
def Qp (b:Int) (c:Ai) (i:Nat):Bool:=(C0 (i:Int) c.1==c.2)&&(C0 (DB b (i:Int)) 1==0)
def JS (n:Nat) (b:Int) (c:Ai):Bool:=(List.range (2 ^ n)).all fun i=>!Qp b c i
theorem mX {n:Nat} {b:Int} {c:Ai} {i:Nat} (hi:i<2 ^ n) (h:Qp b c i=true):JS n b c=false:=by
 unfold JS;rw[List.all_eq_false];exact⟨i,Gu.2 hi,by simp[h]⟩
theorem iN {n:Nat} {b:Int} {c:Ai} (h:∀ j,j<2 ^ n→Qp b c j=false):JS n b c=true:=by
 unfold JS;rw[Gy];intro j hj;simp[h j (Gu.1 hj)]
def WZ (c:Ai) (k:Nat):Ai:=(FQ c.1 (ET 1 (k:Int)),FQ c.2 (ET 1 (k:Int)))
def qR (n:Nat) (b:Int) (c:Ai) (k:Nat):Bool:=!((C0 (DB c.1 (k:Int)) 1==1)&&JS n b (WZ c k))
def RD (n:Nat) (b:Int) (c:Ai):Nat→Bool
 | 0=>true
 | k+1=>RD n b c k&&qR n b c k
def kQ (n:Nat) (b:Int) (c:Ai):Bool:=(FQ c.2 c.1==0)&&(JS n b c&&RD n b c n)
def U0 (n:Nat) (b:Int) (ca:Nat):Nat→List Ai
 | 0=>[]
 | v+1=>if kQ n b ((ca:Int),(v:Int))=true then U0 n b ca v++[((ca:Int),(v:Int))] else U0 n b ca v
def Xw (n:Nat) (b:Int):Nat→List Ai
 | 0=>[]
 | ca+1=>Xw n b ca++U0 n b ca (2 ^ n)
def H1 (n:Nat) (b:Int):List Ai:=Xw n b (2 ^ n)
theorem UT {n:Nat} {b:Int} {ca:Nat}:∀ v,(U0 n b ca v).length≤v
 | 0=>by simp[U0]
 | v+1=>by
   have ih:=UT (n:=n) (b:=b) (ca:=ca) v;unfold U0;split
   · simp;omega
   · omega
theorem Pj {n:Nat} {b:Int} (h:n≤4):∀ ca,(Xw n b ca).length≤16*ca
 | 0=>by simp[Xw]
 | ca+1=>by
   have ih:=Pj (b:=b) h ca;have h2:=UT (n:=n) (b:=b) (ca:=ca) (2 ^ n);have:=Jk h;unfold Xw;simp only[EM];omega
def ZK (n:Nat) (c:Ai):Prop:=0≤c.1∧c.1<16∧0≤c.2∧c.2<16
theorem UM {n:Nat} {b:Int} {ca:Nat} (hc:ca<16):∀ v,v≤16→∀ c∈U0 n b ca v,ZK n c
 | 0,_,c,h=>by simp[U0] at h
 | v+1,hv,c,h=>by
   unfold U0 at h;split at h
   · rcases CO.1 h with h|h
     · exact UM hc v (by omega) c h
     · rw[HE.1 h];exact⟨by simp only;omega,by simp only;omega,by simp only;omega,by simp only;omega⟩
   · exact UM hc v (by omega) c h
theorem Zi {n:Nat} {b:Int} (h:n≤4):∀ ca,ca≤16→∀ c∈Xw n b ca,ZK n c
 | 0,_,c,hc=>by simp[Xw] at hc
 | ca+1,hca,c,hc=>by
   unfold Xw at hc;rcases CO.1 hc with hc|hc
   · exact Zi h ca (by omega) c hc
   · exact UM (by omega) _ (Jk h).2 c hc
def WB (cs:List Ai) (skip:Int) (i k:Nat):Bool:=!((k:Int)==skip)&&(C0 (i:Int) ((cs[k]?).getD (0,0)).1==((cs[k]?).getD (0,0)).2)
def iC (cs:List Ai) (skip:Int) (i:Nat):Bool:=(List.range cs.length).any (WB cs skip i)
def JY (cs:List Ai) (skip:Int):Nat→Int
 | 0=>0
 | i+1=>if iC cs skip i=true then JY cs skip i+ET 1 (i:Int) else JY cs skip i
theorem Wv {cs:List Ai} {skip:Int}:∀ i,i≤16→0≤JY cs skip i∧JY cs skip i<((2 ^ i:Nat):Int)
 | 0,_=>by simp[JY]
 | i+1,hi=>by
   have ih:=Wv (cs:=cs) (skip:=skip) i (by omega);have hp:2 ^ (i+1)=2*2 ^ i:=by rw[Nat.pow_succ];omega
   unfold JY;rw[K3 (by omega),hp];split<;>omega
theorem nW {cs:List Ai} {skip:Int} {i k:Nat} (hk:k<cs.length) (h:WB cs skip i k=true):iC cs skip i=true:=List.any_eq_true.2 ⟨k,Gu.2 hk,h⟩
theorem qO {cs:List Ai} {skip:Int} {i:Nat} (h:∀ k,k<cs.length→WB cs skip i k=false):iC cs skip i=false:=by
 unfold iC;rw[List.any_eq_false];intro k hk;simp[h k (Gu.1 hk)]
def pJ (n:Nat) (b:Int):Nat→List Ai→List Ai
 | 0,L=>L
 | k+1,L=>pJ n b k (if JY L (k:Int) (2 ^ n)=b then L.take k++L.drop (k+1) else L)
def Hl (n:Nat) (b:Int):List Ai:=pJ n b (H1 n b).length (H1 n b)
theorem NN {n:Nat} {b:Int} {p:Ai→Prop}:∀ (k:Nat) (L:List Ai),(∀ c∈L,p c)→(pJ n b k L).length≤L.length∧∀ c∈pJ n b k L,p c
 | 0,L,h=>⟨Nat.le_refl _,h⟩
 | k+1,L,h=>by
   unfold pJ;split
   · have h2:∀ c∈L.take k++L.drop (k+1),p c:=fun c hc=>by
      rcases CO.1 hc with hc|hc
      · exact h c (List.mem_of_mem_take hc)
      · exact h c (List.mem_of_mem_drop hc)
     obtain⟨q1,q2⟩:=NN (n:=n) (b:=b) k _ h2;refine⟨?_,q2⟩;simp only[EM,Ge,List.length_drop] at q1;omega
   · exact NN k L h
theorem Qv {n:Nat} {b:Int} (h:n≤4):(Hl n b).length≤256∧∀ c∈Hl n b,ZK n c:=by
 obtain⟨q1,q2⟩:=NN (n:=n) (b:=b) (p:=ZK n) (H1 n b).length (H1 n b) (Zi h _ (Jk h).2);have h1:=Pj (b:=b) h (2 ^ n);have h2:=(Jk h).2;refine⟨?_,q2⟩
 have:(H1 n b).length≤256:=by
  show (Xw n b (2 ^ n)).length≤256;generalize 2 ^ n=N at *;omega
 show (pJ n b (H1 n b).length (H1 n b)).length≤256;omega
def Lc (n:Nat) (c:Ai):Bool:=DX c.1 0 ((2 ^ n:Nat) - 1:Int)&&(DX c.2 0 ((2 ^ n:Nat) - 1:Int)&&(FQ c.2 c.1==0))
def Cm (n:Nat) (L:List Ai):Bool:=decide (L.length≤81)&&L.all (Lc n)
def NU (c:Ai):Nat→Int
 | 0=>0
 | k+1=>NU c k+C0 (DB c.1 (k:Int)) 1
def LL (n:Nat) (L:List Ai):Nat→Int
 | 0=>0
 | i+1=>LL n L i+NU ((L[i]?).getD (0,0)) n
def IP (n:Nat) (L:List Ai):Int:=if Cm n L=true then LL n L L.length else -1
theorem M7 {c:Ai}:∀ k,0≤NU c k∧NU c k≤(k:Int)
 | 0=>by simp[NU]
 | k+1=>by
   have ih:=M7 (c:=c) k;have h:=CE (DB c.1 (k:Int));unfold NU;omega
theorem WN {n:Nat} {L:List Ai}:∀ i,0≤LL n L i∧LL n L i≤(n:Int)*i
 | 0=>by simp[LL]
 | i+1=>by
   have ih:=WN (n:=n) (L:=L) i;have h:=M7 (c:=(L[i]?).getD (0,0)) n;have e:(n:Int)*((i+1:Nat):Int)=(n:Int)*i+n:=by rw[Int.natCast_add,Int.mul_add];simp
   unfold LL;rw[e];omega
theorem Qi {v n:Int} (h:0≤v∧v<2*n):0≤Af v∧Af v<2*n:=by
 have:=Bd h.1;omega
theorem Hi {v q n:Int} (h:0≤v∧v<2*n) (hn:n≤1000) (hq:q=0∨q=1):0≤Bm v q∧Bm v q<2*n:=by
 rcases hq with rfl|rfl
 · rw[Ru h.1 (by omega)];exact h
 · rw[Bp h.1 (by omega)];exact Qi h
def JR (lits:List Int) (c:Ai) (k:Nat):Int:=Bm (Bm (A3 lits k) 1) (C0 (DB c.2 (k:Int)) 1)
def I7 (fa:Int) (lits:List Int) (c:Ai) (an0:List Ai):Nat→List Ai×Int×Bool
 | 0=>(an0,1,true)
 | k+1 =>
   if (I7 fa lits c an0 k).2.2=false then I7 fa lits c an0 k
   else if C0 (DB c.1 (k:Int)) 1=1 then
    (if AZ fa (I7 fa lits c an0 k).1 (I7 fa lits c an0 k).2.1 (JR lits c k)<0 then ((I7 fa lits c an0 k).1,(I7 fa lits c an0 k).2.1,false)
    else (Ar (I7 fa lits c an0 k).1 (I7 fa lits c an0 k).2.1 (JR lits c k),AZ fa (I7 fa lits c an0 k).1 (I7 fa lits c an0 k).2.1 (JR lits c k),true))
   else I7 fa lits c an0 k
def Ic (fa:Int) (lits:List Int) (cs:List Ai) (an0:List Ai):Nat→List Ai×Int×Bool
 | 0=>(an0,0,true)
 | i+1 =>
   if (Ic fa lits cs an0 i).2.2=false then Ic fa lits cs an0 i
   else (fun q:List Ai×Int×Bool =>
    if q.2.2=false then (q.1,0,false)
    else if Gx fa q.1 (Ic fa lits cs an0 i).2.1 q.2.1<0 then (q.1,0,false)
    else (Ar q.1 (Af (Ic fa lits cs an0 i).2.1) (Af q.2.1),Gx fa q.1 (Ic fa lits cs an0 i).2.1 q.2.1,true))
    (I7 fa lits ((cs[i]?).getD (0,0)) (Ic fa lits cs an0 i).1 lits.length)
structure mJ (fa:Int) (n0:Nat) (s:List Ai×Int×Bool):Prop where
 le:n0≤s.1.length
 an:s.1.length≤300
 ok:G8 fa s.1
 DX:0≤s.2.1∧s.2.1<2*(fa+s.1.length)
section
variable {fa:Int} {lits:List Int} {an0:List Ai} {n0:Nat}
theorem Tv {c:Ai} {k:Nat} {n:Int} (hk:k<lits.length) (hl:∀ y∈lits,0≤y∧y<2*n) (hn:n≤1000):0≤JR lits c k∧JR lits c k<2*n:=by
 have h1:=hl _ (T4 hk);have h2:=Hi h1 hn (.inr rfl);have h3:=CE (DB c.2 (k:Int));exact Hi h2 hn (by omega)
theorem Za (hf:0<fa∧fa≤100) {c:Ai} (h:mJ fa n0 (an0,0,true)) (hl:∀ y∈lits,0≤y∧y<2*(fa+(n0:Int))):∀ k,k≤lits.length→mJ fa n0 (I7 fa lits c an0 k)
 | 0,_=>⟨h.le,h.an,h.ok,by show 0≤(1:Int)∧(1:Int)<2*(fa+an0.length);omega⟩
 | k+1,hk=>by
   have ih:=Za hf (c:=c) h hl k (by omega);unfold I7;generalize I7 fa lits c an0 k=s at *;obtain⟨i1,i2,i3,i4⟩:=ih;have hr:=Tv (c:=c) (k:=k) (n:=fa+s.1.length) hk (fun y hy=>by have:=hl y hy;omega) (by omega);split
   · exact⟨i1,i2,i3,i4⟩
   split
   · split
     · exact⟨i1,i2,i3,i4⟩
     · rename_i hv;have hl2:=A4 (an:=s.1) (a:=s.2.1) (b:=JR lits c k);have hr2:=BQ (fa:=fa) (an:=s.1) (a:=s.2.1) (b:=JR lits c k) (by omega) i4 hr;exact⟨by simp only;omega,Bw i2,GQ i3 i4 hr,by simp only;omega⟩
   · exact⟨i1,i2,i3,i4⟩
theorem Ro (hf:0<fa∧fa≤100) {cs:List Ai} (h:mJ fa n0 (an0,0,true)) (hl:∀ y∈lits,0≤y∧y<2*(fa+(n0:Int))):∀ i,mJ fa n0 (Ic fa lits cs an0 i)
 | 0=>h
 | i+1=>by
   have ih:=Ro hf (cs:=cs) h hl i;unfold Ic;generalize Ic fa lits cs an0 i=s at *;split
   · exact ih
   have hp:=Za (c:=(cs[i]?).getD (0,0)) (an0:=s.1) (n0:=s.1.length) (lits:=lits) hf ⟨Nat.le_refl _,ih.an,ih.ok,by simp only;omega⟩ (fun y hy=>by have:=hl y hy;have:=ih.le;omega) lits.length (Nat.le_refl _);generalize I7 fa lits ((cs[i]?).getD (0,0)) s.1 lits.length=q at *;obtain⟨p1,p2,p3,p4⟩:=hp;obtain⟨i1,i2,i3,i4⟩:=ih;simp only;split
   · exact⟨by simp only;omega,p2,p3,by simp only;omega⟩
   split
   · exact⟨by simp only;omega,p2,p3,by simp only;omega⟩
   · rename_i hv;have r1:0≤s.2.1∧s.2.1<2*(fa+q.1.length):=by omega
     have hl2:=A4 (an:=q.1) (a:=Af s.2.1) (b:=Af q.2.1);have hr2:=Hz (fa:=fa) (an:=q.1) (a:=s.2.1) (b:=q.2.1) (by omega) r1 p4;exact⟨by simp only;omega,Bw p2,GQ p3 (Qi r1) (Qi p4),by simp only;omega⟩
end
def HQ (h:AK) (i0:Nat) (c:List Int) (cov:List Ai) (fl:Int):Nat→List Int×List Ai×Bool
 | 0=>(BE (Aa h),[],true)
 | i+1 =>
   if (HQ h i0 c cov fl i).2.2=false then HQ h i0 c cov fl i
   else if i=i0 then
    (fun q:List Ai×Int×Bool=>if Cm c.length cov=false∨q.2.2=false then ((HQ h i0 c cov fl i).1,(HQ h i0 c cov fl i).2.1,false) else ((HQ h i0 c cov fl i).1++[Bm q.2.1 fl],q.1,true))
      (Ic (Aa h) (c.map (A3 (HQ h i0 c cov fl i).1)) cov (HQ h i0 c cov fl i).2.1 cov.length)
   else if AZ (Aa h) (HQ h i0 c cov fl i).2.1 (Aq (HQ h i0 c cov fl i).1 (Aj h (Aa h+i)).1) (Aq (HQ h i0 c cov fl i).1 (Aj h (Aa h+i)).2)<0 then ((HQ h i0 c cov fl i).1,(HQ h i0 c cov fl i).2.1,false)
   else ((HQ h i0 c cov fl i).1++[AZ (Aa h) (HQ h i0 c cov fl i).2.1 (Aq (HQ h i0 c cov fl i).1 (Aj h (Aa h+i)).1) (Aq (HQ h i0 c cov fl i).1 (Aj h (Aa h+i)).2)],
    Ar (HQ h i0 c cov fl i).2.1 (Aq (HQ h i0 c cov fl i).1 (Aj h (Aa h+i)).1) (Aq (HQ h i0 c cov fl i).1 (Aj h (Aa h+i)).2),true)
theorem Yi {h:AK} (hok:Al h=true) {i0:Nat} {c:List Int} {cov:List Ai} {fl:Int} (hfl:fl=0∨fl=1):∀ i,i≤h.2.2.1.length→JV (Aa h) (Aa h+i) (HQ h i0 c cov fl i)
 | 0,_=>⟨fun _=>CV,(by show (BE (Aa h)).length≤_;rw[CV];omega),H8 (by simp[HQ]),by simp[HQ],by simp[HQ,G8,BU]⟩
 | i+1,hi=>by
   have ih:=Yi hok (i0:=i0) (c:=c) (cov:=cov) hfl i (by omega);obtain⟨hF,hgl,hNi,hno⟩:=A9 hok;have hN:=Br h;obtain⟨⟨n1,n2,n3,n4,n5,n6⟩,-,-,-⟩:=AA hok;obtain⟨-,a1,a2,a3,a4,a5,a6⟩:=C2 hok (v:=Aa h+i) (by omega) (by omega);have hf0:0<Aa h:=by unfold Aa;omega
   have hf1:Aa h≤40:=by unfold Aa;omega
   unfold HQ;generalize HQ h i0 c cov fl i=s at *;obtain⟨to,an,b⟩:=s;simp only at ih ⊢;split
   · rename_i hb;subst hb;exact⟨fun e=>(by cases e),(by have:=ih.le;simp only at this;simp only;omega),ih.pl,ih.an,ih.ok⟩
   rename_i hb;have hbt:b=true:=by simpa using hb
   subst hbt;have hl:=ih.len rfl;have hpl:=ih.pl;have h3:=ih.an;have ho:=ih.ok;simp only at hl hpl h3 ho;split
   · have hlr:∀ y∈c.map (A3 to),0≤y∧y<2*((Aa h:Int)+(an.length:Int)):=fun y hy=>by
      obtain⟨z,_,rfl⟩:=CF.1 hy;exact BK hpl (by omega) z
     have hS:=Ro (fa:=Aa h) (lits:=c.map (A3 to)) (an0:=an) (n0:=an.length) (cs:=cov) (by omega) ⟨Nat.le_refl _,h3,ho,by simp only;omega⟩ hlr cov.length;generalize Ic (Aa h) (c.map (A3 to)) cov an cov.length=q at *;obtain⟨p1,p2,p3,p4⟩:=hS;split
     · exact⟨fun e=>(by cases e),(by simp only;omega),hpl,h3,ho⟩
     · have hx:=Hi p4 (by omega) hfl;refine⟨fun _=>(by simp;omega),(by simp;omega),fun y hy=>?_,p2,p3⟩;rcases CO.1 hy with hy|hy
       · have:=hpl y hy;simp only;omega
       · rw[HE.1 hy];exact hx
   · have r1:=Bq (l:=(Aj h (Aa h+i)).1) (BK hpl (by omega) _) (by omega);have r2:=Bq (l:=(Aj h (Aa h+i)).2) (BK hpl (by omega) _) (by omega);split
     · exact⟨fun e=>(by cases e),(by simp only;omega),hpl,h3,ho⟩
     · rename_i hv;have hl2:=A4 (an:=an) (a:=Aq to (Aj h (Aa h+i)).1) (b:=Aq to (Aj h (Aa h+i)).2);have hr2:=BQ (fa:=(Aa h:Int)) (an:=an) (by omega) r1 r2;refine⟨fun _=>(by simp;omega),(by simp;omega),fun y hy=>?_,Bw h3,GQ ho r1 r2⟩;rcases CO.1 hy with hy|hy
       · have:=hpl y hy;simp only;omega
       · rw[HE.1 hy];simp only;omega
theorem S8 {h:AK} {i0:Nat} {c:List Int} {cov:List Ai} {fl:Int} {i:Nat} (hf:(HQ h i0 c cov fl i).2.2=false):∀ d,(HQ h i0 c cov fl (i+d)).2.2=false
 | 0=>hf
 | d+1=>by
   have ih:=S8 hf d;show (HQ h i0 c cov fl (i+d+1)).2.2=false;rw[HQ,if_pos ih];exact ih
noncomputable def IF (h:AK) (i:Nat) (c:List Int):List Ai×Int :=
 if IP c.length (Hl c.length (FA c.length - Ph h c (Aa h+i)))<IP c.length (Hl c.length (Ph h c (Aa h+i))) then (Hl c.length (FA c.length - Ph h c (Aa h+i)),1)
 else (Hl c.length (Ph h c (Aa h+i)),0)
theorem OG {h:AK} {i:Nat} {c:List Int}:(IF h i c).2=0∨(IF h i c).2=1:=by
 unfold IF;split
 · exact .inr rfl
 · exact .inl rfl
noncomputable def RP (h:AK) (i:Nat) (c:List Int):List Int×List Ai×Bool:=HQ h i c (IF h i c).1 (IF h i c).2 h.2.2.1.length
noncomputable def Sb (h:AK) (i:Nat) (c:List Int):AK×Bool :=
 if (RP h i c).2.2=false then (h,false) else (IE (h.1,h.2.1.map (Dy (RP h i c).1),(RP h i c).2.1,h.2.2.2.map (Aq (RP h i c).1)),true)
theorem Zp {h:AK} (hok:Al h=true) {i:Nat} {c:List Int}:Al (Sb h i c).1=true:=by
 have I:=Yi hok (i0:=i) (c:=c) (cov:=(IF h i c).1) (OG (h:=h) (i:=i) (c:=c)) _ (Nat.le_refl _);unfold Sb;split
 · exact hok
 · exact T1 (Kh hok I.an I.pl I.ok)
noncomputable def rH (h:AK) (i:Nat):List (List Int)→AK
 | []=>h
 | c::cs=>if (Sb h i c).2=true∧(Sb h i c).1.2.2.1.length<h.2.2.1.length then (Sb h i c).1 else rH h i cs
theorem XR {h:AK} (hok:Al h=true) {i:Nat}:∀ cs,Al (rH h i cs)=true∧(rH h i cs).2.2.1.length≤h.2.2.1.length
 | []=>⟨hok,Nat.le_refl _⟩
 | c::cs=>by
   unfold rH;split
   · rename_i hc;exact⟨Zp hok,by omega⟩
   · exact XR hok cs
noncomputable def mF:Nat→Nat→AK→AK
 | 0,i,h=>h
 | n+1,i,h=>if i<h.2.2.1.length then mF n (i+1) (rH h i ((EH h (Aa h+i)).take ((EH h (Aa h+i)).length - 1))) else h
theorem iX:∀ (n i:Nat) (h:AK),Al h=true→Al (mF n i h)=true
 | 0,i,h,hok=>hok
 | n+1,i,h,hok=>by
   unfold mF;split
   · exact iX n (i+1) _ (XR hok _).1
   · exact hok
noncomputable def LY (x:AK):AK:=if 40<(CD x).2.2.1.length then CD x else mF 41 0 (CD x)
theorem aP {x:AK} (hok:Al x=true):Al (LY x)=true:=by
 unfold LY;split
 · exact J8 hok
 · exact iX 41 0 _ (J8 hok)
theorem Yq {h:AK} (hok:Al h=true) {i:Nat} (hk:Aa h+i<A0 h) {q:Nat} {c:List Int} (hq:(EH h (Aa h+i))[q]? = some c) (hm:LI h c i=true):∀ y∈c,0≤y∧y<((Aa h+i:Nat):Int):=fun y hy=>by
 have hg:=(I9 hok _ hk).1 c (D1 hq);obtain⟨u,rfl,hu⟩:=hg.cone y hy;have hle:=L4.le (Eb hok) hu hk
 have hne:u≠Aa h+i:=fun e=>by
  simp only[LI,Bool.and_eq_true,Bool.not_eq_true',Li,decide_eq_false_iff_not] at hm;exact hm.1 (by rw[←e];exact hy)
 omega
end Go.Proofs.YtnjedabjbeipeaaGreat
