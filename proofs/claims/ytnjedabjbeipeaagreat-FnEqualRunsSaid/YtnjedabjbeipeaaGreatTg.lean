/-
  Cubes and covers as data. Plain lemmas, about no function of the program.
  Conditions: those typed in each theorem.
-/
import Derived.Test.YtnjedabjbeipeaaGreatTk
namespace Go.Proofs.YtnjedabjbeipeaaGreat
open Go.RowKit Go.ChangeShapes Go.WideShapes
set_option linter.unusedSimpArgs false
set_option linter.unusedVariables false
set_option maxRecDepth 100000
set_option maxHeartbeats 10000000
theorem KI {n:Nat} (h:n≤16):EC 1 (n:Int)=((2 ^ n:Nat):Int):=by
 rw[MJ (by omega) (by omega),Int.one_mul];simp
theorem IF {n:Nat} (h:n≤4):1≤2 ^ n∧2 ^ n≤16:=⟨Nat.one_le_two_pow,ABy (by decide) h⟩
def Pj (b:Int) (c:Ai) (i:Nat):Bool:=(CR (i:Int) c.1==c.2)&&(CR (Dm b (i:Int)) 1==0)
def Jt (n:Nat) (b:Int) (c:Ai):Bool:=(List.range (2 ^ n)).all fun i=>!Pj b c i
theorem nF {n:Nat} {b:Int} {c:Ai} {i:Nat} (hi:i<2 ^ n) (h:Pj b c i=true):Jt n b c=false:=by
 unfold Jt;rw[List.all_eq_false];exact⟨i,ABw.2 hi,by simp[h]⟩
theorem fE {n:Nat} {b:Int} {c:Ai} (h:∀ j,j<2 ^ n→Pj b c j=false):Jt n b c=true:=by
 unfold Jt;rw[zz8];intro j hj;simp[h j (ABw.1 hj)]
def WK (c:Ai) (k:Nat):Ai:=(Fp c.1 (EC 1 (k:Int)),Fp c.2 (EC 1 (k:Int)))
def pA (n:Nat) (b:Int) (c:Ai) (k:Nat):Bool:=!((CR (Dm c.1 (k:Int)) 1==1)&&Jt n b (WK c k))
def Rl (n:Nat) (b:Int) (c:Ai):Nat→Bool
 | 0=>true
 | k+1=>Rl n b c k&&pA n b c k
def iX (n:Nat) (b:Int) (c:Ai):Bool:=(Fp c.2 c.1==0)&&(Jt n b c&&Rl n b c n)
def Us (n:Nat) (b:Int) (ca:Nat):Nat→List Ai
 | 0=>[]
 | v+1=>if iX n b ((ca:Int),(v:Int))=true then Us n b ca v++[((ca:Int),(v:Int))] else Us n b ca v
def WY (n:Nat) (b:Int):Nat→List Ai
 | 0=>[]
 | ca+1=>WY n b ca++Us n b ca (2 ^ n)
def Hy (n:Nat) (b:Int):List Ai:=WY n b (2 ^ n)
theorem T7 {n:Nat} {b:Int} {ca:Nat}:∀ v,(Us n b ca v).length≤v
 | 0=>by simp[Us]
 | v+1=>by
   have ih:=T7 (n:=n) (b:=b) (ca:=ca) v;unfold Us;split
   · simp;omega
   · omega
theorem OW {n:Nat} {b:Int} (h:n≤4):∀ ca,(WY n b ca).length≤16*ca
 | 0=>by simp[WY]
 | ca+1=>by
   have ih:=OW (b:=b) h ca;have h2:=T7 (n:=n) (b:=b) (ca:=ca) (2 ^ n);have:=IF h;unfold WY;simp only[AB0];omega
def Zd (n:Nat) (c:Ai):Prop:=0≤c.1∧c.1<16∧0≤c.2∧c.2<16
theorem TA {n:Nat} {b:Int} {ca:Nat} (hc:ca<16):∀ v,v≤16→∀ c∈Us n b ca v,Zd n c
 | 0,_,c,h=>by simp[Us] at h
 | v+1,hv,c,h=>by
   unfold Us at h;split at h
   · rcases ACB.1 h with h|h
     · exact TA hc v (by omega) c h
     · rw[zz9.1 h];exact⟨by simp only;omega,by simp only;omega,by simp only;omega,by simp only;omega⟩
   · exact TA hc v (by omega) c h
theorem YL {n:Nat} {b:Int} (h:n≤4):∀ ca,ca≤16→∀ c∈WY n b ca,Zd n c
 | 0,_,c,hc=>by simp[WY] at hc
 | ca+1,hca,c,hc=>by
   unfold WY at hc;rcases ACB.1 hc with hc|hc
   · exact YL h ca (by omega) c hc
   · exact TA (by omega) _ (IF h).2 c hc
def Vy (cs:List Ai) (skip:Int) (i k:Nat):Bool:=!((k:Int)==skip)&&(CR (i:Int) ((cs[k]?).getD (0,0)).1==((cs[k]?).getD (0,0)).2)
def fK (cs:List Ai) (skip:Int) (i:Nat):Bool:=(List.range cs.length).any (Vy cs skip i)
def Jv (cs:List Ai) (skip:Int):Nat→Int
 | 0=>0
 | i+1=>if fK cs skip i=true then Jv cs skip i+EC 1 (i:Int) else Jv cs skip i
theorem V5 {cs:List Ai} {skip:Int}:∀ i,i≤16→0≤Jv cs skip i∧Jv cs skip i<((2 ^ i:Nat):Int)
 | 0,_=>by simp[Jv]
 | i+1,hi=>by
   have ih:=V5 (cs:=cs) (skip:=skip) i (by omega);have hp:2 ^ (i+1)=2*2 ^ i:=by rw[Nat.pow_succ];omega
   unfold Jv;rw[KI (by omega),hp];split<;>omega
theorem mG {cs:List Ai} {skip:Int} {i k:Nat} (hk:k<cs.length) (h:Vy cs skip i k=true):fK cs skip i=true:=List.any_eq_true.2 ⟨k,ABw.2 hk,h⟩
theorem oK {cs:List Ai} {skip:Int} {i:Nat} (h:∀ k,k<cs.length→Vy cs skip i k=false):fK cs skip i=false:=by
 unfold fK;rw[List.any_eq_false];intro k hk;simp[h k (ABw.1 hk)]
def nR (n:Nat) (b:Int):Nat→List Ai→List Ai
 | 0,L=>L
 | k+1,L=>nR n b k (if Jv L (k:Int) (2 ^ n)=b then L.take k++L.drop (k+1) else L)
def GX (n:Nat) (b:Int):List Ai:=nR n b (Hy n b).length (Hy n b)
theorem M0 {n:Nat} {b:Int} {p:Ai→Prop}:∀ (k:Nat) (L:List Ai),(∀ c∈L,p c)→(nR n b k L).length≤L.length∧∀ c∈nR n b k L,p c
 | 0,L,h=>⟨Nat.le_refl _,h⟩
 | k+1,L,h=>by
   unfold nR;split
   · have h2:∀ c∈L.take k++L.drop (k+1),p c:=fun c hc=>by
      rcases ACB.1 hc with hc|hc
      · exact h c (List.mem_of_mem_take hc)
      · exact h c (List.mem_of_mem_drop hc)
     obtain⟨q1,q2⟩:=M0 (n:=n) (b:=b) k _ h2;refine⟨?_,q2⟩;simp only[AB0,ACC,List.length_drop] at q1;omega
   · exact M0 k L h
theorem Ql {n:Nat} {b:Int} (h:n≤4):(GX n b).length≤256∧∀ c∈GX n b,Zd n c:=by
 obtain⟨q1,q2⟩:=M0 (n:=n) (b:=b) (p:=Zd n) (Hy n b).length (Hy n b) (YL h _ (IF h).2);have h1:=OW (b:=b) h (2 ^ n);have h2:=(IF h).2;refine⟨?_,q2⟩
 have:(Hy n b).length≤256:=by
  show (WY n b (2 ^ n)).length≤256;generalize 2 ^ n=N at *;omega
 show (nR n b (Hy n b).length (Hy n b)).length≤256;omega
def KB (n:Nat) (c:Ai):Bool:=DM c.1 0 ((2 ^ n:Nat) - 1:Int)&&(DM c.2 0 ((2 ^ n:Nat) - 1:Int)&&(Fp c.2 c.1==0))
def Ci (n:Nat) (L:List Ai):Bool:=decide (L.length≤81)&&L.all (KB n)
def Ng (c:Ai):Nat→Int
 | 0=>0
 | k+1=>Ng c k+CR (Dm c.1 (k:Int)) 1
def Lw (n:Nat) (L:List Ai):Nat→Int
 | 0=>0
 | i+1=>Lw n L i+Ng ((L[i]?).getD (0,0)) n
def Io (n:Nat) (L:List Ai):Int:=if Ci n L=true then Lw n L L.length else -1
theorem L5 {c:Ai}:∀ k,0≤Ng c k∧Ng c k≤(k:Int)
 | 0=>by simp[Ng]
 | k+1=>by
   have ih:=L5 (c:=c) k;have h:=CC (Dm c.1 (k:Int));unfold Ng;omega
theorem VV {n:Nat} {L:List Ai}:∀ i,0≤Lw n L i∧Lw n L i≤(n:Int)*i
 | 0=>by simp[Lw]
 | i+1=>by
   have ih:=VV (n:=n) (L:=L) i;have h:=L5 (c:=(L[i]?).getD (0,0)) n;have e:(n:Int)*((i+1:Nat):Int)=(n:Int)*i+n:=by rw[Int.natCast_add,Int.mul_add];simp
   unfold Lw;rw[e];omega
theorem Pd {v n:Int} (h:0≤v∧v<2*n):0≤Af v∧Af v<2*n:=by
 have:=Bb h.1;omega
theorem GP {v q n:Int} (h:0≤v∧v<2*n) (hn:n≤1000) (hq:q=0∨q=1):0≤Bl v q∧Bl v q<2*n:=by
 rcases hq with rfl|rfl
 · rw[PR h.1 (by omega)];exact h
 · rw[Bo h.1 (by omega)];exact Pd h
def Jq (lits:List Int) (c:Ai) (k:Nat):Int:=Bl (Bl (A1 lits k) 1) (CR (Dm c.2 (k:Int)) 1)
def Iw (fa:Int) (lits:List Int) (c:Ai) (an0:List Ai):Nat→List Ai×Int×Bool
 | 0=>(an0,1,true)
 | k+1 =>
   if (Iw fa lits c an0 k).2.2=false then Iw fa lits c an0 k
   else if CR (Dm c.1 (k:Int)) 1=1 then
    (if AZ fa (Iw fa lits c an0 k).1 (Iw fa lits c an0 k).2.1 (Jq lits c k)<0 then ((Iw fa lits c an0 k).1,(Iw fa lits c an0 k).2.1,false)
    else (Ar (Iw fa lits c an0 k).1 (Iw fa lits c an0 k).2.1 (Jq lits c k),AZ fa (Iw fa lits c an0 k).1 (Iw fa lits c an0 k).2.1 (Jq lits c k),true))
   else Iw fa lits c an0 k
def HK (fa:Int) (lits:List Int) (cs:List Ai) (an0:List Ai):Nat→List Ai×Int×Bool
 | 0=>(an0,0,true)
 | i+1 =>
   if (HK fa lits cs an0 i).2.2=false then HK fa lits cs an0 i
   else (fun q:List Ai×Int×Bool =>
    if q.2.2=false then (q.1,0,false)
    else if F7 fa q.1 (HK fa lits cs an0 i).2.1 q.2.1<0 then (q.1,0,false)
    else (Ar q.1 (Af (HK fa lits cs an0 i).2.1) (Af q.2.1),F7 fa q.1 (HK fa lits cs an0 i).2.1 q.2.1,true))
    (Iw fa lits ((cs[i]?).getD (0,0)) (HK fa lits cs an0 i).1 lits.length)
structure lG (fa:Int) (n0:Nat) (s:List Ai×Int×Bool):Prop where
 le:n0≤s.1.length
 an:s.1.length≤300
 ok:GR fa s.1
 DM:0≤s.2.1∧s.2.1<2*(fa+s.1.length)
section
variable {fa:Int} {lits:List Int} {an0:List Ai} {n0:Nat}
theorem SP {c:Ai} {k:Nat} {n:Int} (hk:k<lits.length) (hl:∀ y∈lits,0≤y∧y<2*n) (hn:n≤1000):0≤Jq lits c k∧Jq lits c k<2*n:=by
 have h1:=hl _ (Tv hk);have h2:=GP h1 hn (.inr rfl);have h3:=CC (Dm c.2 (k:Int));exact GP h2 hn (by omega)
theorem Yg (hf:0<fa∧fa≤100) {c:Ai} (h:lG fa n0 (an0,0,true)) (hl:∀ y∈lits,0≤y∧y<2*(fa+(n0:Int))):∀ k,k≤lits.length→lG fa n0 (Iw fa lits c an0 k)
 | 0,_=>⟨h.le,h.an,h.ok,by show 0≤(1:Int)∧(1:Int)<2*(fa+an0.length);omega⟩
 | k+1,hk=>by
   have ih:=Yg hf (c:=c) h hl k (by omega);unfold Iw;generalize Iw fa lits c an0 k=s at *;obtain⟨i1,i2,i3,i4⟩:=ih;have hr:=SP (c:=c) (k:=k) (n:=fa+s.1.length) hk (fun y hy=>by have:=hl y hy;omega) (by omega);split
   · exact⟨i1,i2,i3,i4⟩
   split
   · split
     · exact⟨i1,i2,i3,i4⟩
     · rename_i hv;have hl2:=A3 (an:=s.1) (a:=s.2.1) (b:=Jq lits c k);have hr2:=BL (fa:=fa) (an:=s.1) (a:=s.2.1) (b:=Jq lits c k) (by omega) i4 hr;exact⟨by simp only;omega,Bu i2,Gp i3 i4 hr,by simp only;omega⟩
   · exact⟨i1,i2,i3,i4⟩
theorem Pw (hf:0<fa∧fa≤100) {cs:List Ai} (h:lG fa n0 (an0,0,true)) (hl:∀ y∈lits,0≤y∧y<2*(fa+(n0:Int))):∀ i,lG fa n0 (HK fa lits cs an0 i)
 | 0=>h
 | i+1=>by
   have ih:=Pw hf (cs:=cs) h hl i;unfold HK;generalize HK fa lits cs an0 i=s at *;split
   · exact ih
   have hp:=Yg (c:=(cs[i]?).getD (0,0)) (an0:=s.1) (n0:=s.1.length) (lits:=lits) hf ⟨Nat.le_refl _,ih.an,ih.ok,by simp only;omega⟩ (fun y hy=>by have:=hl y hy;have:=ih.le;omega) lits.length (Nat.le_refl _);generalize Iw fa lits ((cs[i]?).getD (0,0)) s.1 lits.length=q at *;obtain⟨p1,p2,p3,p4⟩:=hp;obtain⟨i1,i2,i3,i4⟩:=ih;simp only;split
   · exact⟨by simp only;omega,p2,p3,by simp only;omega⟩
   split
   · exact⟨by simp only;omega,p2,p3,by simp only;omega⟩
   · rename_i hv;have r1:0≤s.2.1∧s.2.1<2*(fa+q.1.length):=by omega
     have hl2:=A3 (an:=q.1) (a:=Af s.2.1) (b:=Af q.2.1);have hr2:=G7 (fa:=fa) (an:=q.1) (a:=s.2.1) (b:=q.2.1) (by omega) r1 p4;exact⟨by simp only;omega,Bu p2,Gp p3 (Pd r1) (Pd p4),by simp only;omega⟩
end
def Hm (h:AK) (i0:Nat) (c:List Int) (cov:List Ai) (fl:Int):Nat→List Int×List Ai×Bool
 | 0=>(BB (Aa h),[],true)
 | i+1 =>
   if (Hm h i0 c cov fl i).2.2=false then Hm h i0 c cov fl i
   else if i=i0 then
    (fun q:List Ai×Int×Bool=>if Ci c.length cov=false∨q.2.2=false then ((Hm h i0 c cov fl i).1,(Hm h i0 c cov fl i).2.1,false) else ((Hm h i0 c cov fl i).1++[Bl q.2.1 fl],q.1,true))
      (HK (Aa h) (c.map (A1 (Hm h i0 c cov fl i).1)) cov (Hm h i0 c cov fl i).2.1 cov.length)
   else if AZ (Aa h) (Hm h i0 c cov fl i).2.1 (Aq (Hm h i0 c cov fl i).1 (Aj h (Aa h+i)).1) (Aq (Hm h i0 c cov fl i).1 (Aj h (Aa h+i)).2)<0 then ((Hm h i0 c cov fl i).1,(Hm h i0 c cov fl i).2.1,false)
   else ((Hm h i0 c cov fl i).1++[AZ (Aa h) (Hm h i0 c cov fl i).2.1 (Aq (Hm h i0 c cov fl i).1 (Aj h (Aa h+i)).1) (Aq (Hm h i0 c cov fl i).1 (Aj h (Aa h+i)).2)],
    Ar (Hm h i0 c cov fl i).2.1 (Aq (Hm h i0 c cov fl i).1 (Aj h (Aa h+i)).1) (Aq (Hm h i0 c cov fl i).1 (Aj h (Aa h+i)).2),true)
theorem XP {h:AK} (hok:Al h=true) {i0:Nat} {c:List Int} {cov:List Ai} {fl:Int} (hfl:fl=0∨fl=1):∀ i,i≤h.2.2.1.length→Jr (Aa h) (Aa h+i) (Hm h i0 c cov fl i)
 | 0,_=>⟨fun _=>CO,(by show (BB (Aa h)).length≤_;rw[CO];omega),HB (by simp[Hm]),by simp[Hm],by simp[Hm,GR,BR]⟩
 | i+1,hi=>by
   have ih:=XP hok (i0:=i0) (c:=c) (cov:=cov) hfl i (by omega);obtain⟨hF,hgl,hNi,hno⟩:=A7 hok;have hN:=Bp h;obtain⟨⟨n1,n2,n3,n4,n5,n6⟩,-,-,-⟩:=AA hok;obtain⟨-,a1,a2,a3,a4,a5,a6⟩:=CW hok (v:=Aa h+i) (by omega) (by omega);have hf0:0<Aa h:=by unfold Aa;omega
   have hf1:Aa h≤40:=by unfold Aa;omega
   unfold Hm;generalize Hm h i0 c cov fl i=s at *;obtain⟨to,an,b⟩:=s;simp only at ih ⊢;split
   · rename_i hb;subst hb;exact⟨fun e=>(by cases e),(by have:=ih.le;simp only at this;simp only;omega),ih.pl,ih.an,ih.ok⟩
   rename_i hb;have hbt:b=true:=by simpa using hb
   subst hbt;have hl:=ih.len rfl;have hpl:=ih.pl;have h3:=ih.an;have ho:=ih.ok;simp only at hl hpl h3 ho;split
   · have hlr:∀ y∈c.map (A1 to),0≤y∧y<2*((Aa h:Int)+(an.length:Int)):=fun y hy=>by
      obtain⟨z,_,rfl⟩:=ABc.1 hy;exact BH hpl (by omega) z
     have hS:=Pw (fa:=Aa h) (lits:=c.map (A1 to)) (an0:=an) (n0:=an.length) (cs:=cov) (by omega) ⟨Nat.le_refl _,h3,ho,by simp only;omega⟩ hlr cov.length;generalize HK (Aa h) (c.map (A1 to)) cov an cov.length=q at *;obtain⟨p1,p2,p3,p4⟩:=hS;split
     · exact⟨fun e=>(by cases e),(by simp only;omega),hpl,h3,ho⟩
     · have hx:=GP p4 (by omega) hfl;refine⟨fun _=>(by simp;omega),(by simp;omega),fun y hy=>?_,p2,p3⟩;rcases ACB.1 hy with hy|hy
       · have:=hpl y hy;simp only;omega
       · rw[zz9.1 hy];exact hx
   · have r1:=Bn (l:=(Aj h (Aa h+i)).1) (BH hpl (by omega) _) (by omega);have r2:=Bn (l:=(Aj h (Aa h+i)).2) (BH hpl (by omega) _) (by omega);split
     · exact⟨fun e=>(by cases e),(by simp only;omega),hpl,h3,ho⟩
     · rename_i hv;have hl2:=A3 (an:=an) (a:=Aq to (Aj h (Aa h+i)).1) (b:=Aq to (Aj h (Aa h+i)).2);have hr2:=BL (fa:=(Aa h:Int)) (an:=an) (by omega) r1 r2;refine⟨fun _=>(by simp;omega),(by simp;omega),fun y hy=>?_,Bu h3,Gp ho r1 r2⟩;rcases ACB.1 hy with hy|hy
       · have:=hpl y hy;simp only;omega
       · rw[zz9.1 hy];simp only;omega
theorem SH {h:AK} {i0:Nat} {c:List Int} {cov:List Ai} {fl:Int} {i:Nat} (hf:(Hm h i0 c cov fl i).2.2=false):∀ d,(Hm h i0 c cov fl (i+d)).2.2=false
 | 0=>hf
 | d+1=>by
   have ih:=SH hf d;show (Hm h i0 c cov fl (i+d+1)).2.2=false;rw[Hm,if_pos ih];exact ih
noncomputable def H8 (h:AK) (i:Nat) (c:List Int):List Ai×Int :=
 if Io c.length (GX c.length (Fi c.length - ON h c (Aa h+i)))<Io c.length (GX c.length (ON h c (Aa h+i))) then (GX c.length (Fi c.length - ON h c (Aa h+i)),1)
 else (GX c.length (ON h c (Aa h+i)),0)
theorem Of {h:AK} {i:Nat} {c:List Int}:(H8 h i c).2=0∨(H8 h i c).2=1:=by
 unfold H8;split
 · exact .inr rfl
 · exact .inl rfl
noncomputable def Ry (h:AK) (i:Nat) (c:List Int):List Int×List Ai×Bool:=Hm h i c (H8 h i c).1 (H8 h i c).2 h.2.2.1.length
noncomputable def Rr (h:AK) (i:Nat) (c:List Int):AK×Bool :=
 if (Ry h i c).2.2=false then (h,false) else (Ia (h.1,h.2.1.map (Dr (Ry h i c).1),(Ry h i c).2.1,h.2.2.2.map (Aq (Ry h i c).1)),true)
theorem YC {h:AK} (hok:Al h=true) {i:Nat} {c:List Int}:Al (Rr h i c).1=true:=by
 have I:=XP hok (i0:=i) (c:=c) (cov:=(H8 h i c).1) (Of (h:=h) (i:=i) (c:=c)) _ (Nat.le_refl _);unfold Rr;split
 · exact hok
 · exact Tl (JH hok I.an I.pl I.ok)
noncomputable def pR (h:AK) (i:Nat):List (List Int)→AK
 | []=>h
 | c::cs=>if (Rr h i c).2=true∧(Rr h i c).1.2.2.1.length<h.2.2.1.length then (Rr h i c).1 else pR h i cs
theorem XO {h:AK} (hok:Al h=true) {i:Nat}:∀ cs,Al (pR h i cs)=true∧(pR h i cs).2.2.1.length≤h.2.2.1.length
 | []=>⟨hok,Nat.le_refl _⟩
 | c::cs=>by
   unfold pR;split
   · rename_i hc;exact⟨YC hok,by omega⟩
   · exact XO hok cs
noncomputable def jY:Nat→Nat→AK→AK
 | 0,i,h=>h
 | n+1,i,h=>if i<h.2.2.1.length then jY n (i+1) (pR h i ((Em h (Aa h+i)).take ((Em h (Aa h+i)).length - 1))) else h
theorem gB:∀ (n i:Nat) (h:AK),Al h=true→Al (jY n i h)=true
 | 0,i,h,hok=>hok
 | n+1,i,h,hok=>by
   unfold jY;split
   · exact gB n (i+1) _ (XO hok _).1
   · exact hok
noncomputable def Lu (x:AK):AK:=if 40<(CB x).2.2.1.length then CB x else jY 41 0 (CB x)
theorem aN {x:AK} (hok:Al x=true):Al (Lu x)=true:=by
 unfold Lu;split
 · exact J3 hok
 · exact gB 41 0 _ (J3 hok)
theorem XJ {h:AK} (hok:Al h=true) {i:Nat} (hk:Aa h+i<A0 h) {q:Nat} {c:List Int} (hq:(Em h (Aa h+i))[q]? = some c) (hm:K8 h c i=true):∀ y∈c,0≤y∧y<((Aa h+i:Nat):Int):=fun y hy=>by
 have hg:=(IZ hok _ hk).1 c (zz6 hq);obtain⟨u,rfl,hu⟩:=hg.cone y hy;have hle:=Lt.le (DX hok) hu hk
 have hne:u≠Aa h+i:=fun e=>by
  simp only[K8,Bool.and_eq_true,Bool.not_eq_true',KP,decide_eq_false_iff_not] at hm;exact hm.1 (by rw[←e];exact hy)
 omega
end Go.Proofs.YtnjedabjbeipeaaGreat
