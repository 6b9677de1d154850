/-
  Places and nets as they are drawn with a fault at times. Plain lemmas and abstract walks.
  Conditions: those typed in each theorem.
-/
import Derived.Test.YtnjedabjbeipeaaGreatSd
namespace Go.Proofs.YtnjedabjbeipeaaGreat
open Go.RowKit Go.ChangeShapes Go.WideShapes
set_option linter.unusedSimpArgs false
set_option linter.unusedVariables false
set_option maxRecDepth 100000
set_option maxHeartbeats 10000000
def JW (c:B9) (n:Int):Int:=if GQ c 15=true then [-1,n,n+1,9223372036854775807,-9223372036854775808].getD (Au (Ag c 15) 5).toNat 0 else Au (Ag c 15) n
def Pk (c:B9) (n:Int):B9:=if GQ c 15=true then Ag (Ag c 15) 5 else Ag (Ag c 15) n
theorem MH {a b d e f:Int} {k:Nat} (ha:Jy a) (hb:Jy b) (hd:Jy d) (he:Jy e) (hf:Jy f):Jy ([a,b,d,e,f].getD k 0):=by
 match k with
 | 0=>exact ha
 | 1=>exact hb
 | 2=>exact hd
 | 3=>exact he
 | 4=>exact hf
 | k+5=>exact (by unfold Jy;simp)
theorem Lo (c:B9) (h:c.ok) (a b d e f:Int):CG Tryz.prog 35 [.ptr 0 0,.d (.sl 3 [[.int .i64 a],[.int .i64 b],[.int .i64 d],[.int .i64 e],[.int .i64 f]])] [Ce c] (.d (.int .i64 ([a,b,d,e,f].getD (Au c 5).toNat 0))) [Ce (Ag c 5)] :=
 GV c [a,b,d,e,f] h (by simp) (by simp)
theorem XB (c:B9) (h:c.ok) (a b d e f g:Int):CG Tryz.prog 35 [.ptr 0 0,.d (.sl 3 [[.int .i64 a],[.int .i64 b],[.int .i64 d],[.int .i64 e],[.int .i64 f],[.int .i64 g]])] [Ce c] (.d (.int .i64 ([a,b,d,e,f,g].getD (Au c 6).toNat 0))) [Ce (Ag c 6)] :=
 GV c [a,b,d,e,f,g] h (by simp) (by simp)
theorem Rz (c:B9) (n:Int) (h:c.ok) (hn:-256≤n∧n≤256):CG Tryz.prog 80 [.ptr 0 0,.d (.int .i64 n)] [Ce c] (.d (.int .i64 (JW c n))) [Ce (Pk c n)]:=by
 have k1:=FY c 15 h (by omega);have k2:=Lo (Ag c 15) (Aw h) (-1) n (n+1) 9223372036854775807 (-9223372036854775808);have k3:=AG (Ag c 15) n (Aw h) (by omega);have hV:JW c n=if GQ c 15=true then [-1,n,n+1,9223372036854775807,-9223372036854775808].getD (Au (Ag c 15) 5).toNat 0 else Au (Ag c 15) n:=rfl;have hC:Pk c n=if GQ c 15=true then Ag (Ag c 15) 5 else Ag (Ag c 15) n:=rfl;have w1:IntKind.i64.wrap (n+1)=n+1:=Ad (by omega) (by omega);generalize JW c n=v at *;generalize Pk c n=c2 at *;generalize [-1,n,n+1,9223372036854775807,-9223372036854775808].getD (Au (Ag c 15) 5).toNat 0=v5 at *;generalize Ag (Ag c 15) 5=c5 at *;generalize Ag (Ag c 15) n=c4 at *;generalize Au (Ag c 15) n=v4 at *;generalize GQ c 15=ob at *;generalize Ag c 15=c1 at *;refine DZ (by kernel_rfl) Tryz.func80 rfl rfl rfl (by simp[Bi,Later]) (by simp[BN,Ah.live]) ?_
 cases ob with
 | true =>
   rw[if_pos rfl] at hV hC;subst hV hC;simp;refine Ac (k1) [] [0] (by simp) ?_;simp[w1];refine Ac (k2) [1] [0] (by simp) ?_;simp;exact⟨[0],by simp⟩
 | false =>
   rw[if_neg (by simp)] at hV hC;subst hV hC;simp;refine Ac (k1) [] [0] (by simp) ?_;simp;refine Ac (k3) [] [0] (by simp) ?_;simp;exact⟨[0],by simp⟩
def Fz {α:Type} (z:α) (m:Int):Nat→List α→B9→List α×B9
 | 0,o,c=>(o,c)
 | n+1,o,c=>if (o.length:Int)<m+Au c 2 then Fz z m n (o++[z]) (Ag c 2) else (o,Ag c 2)
theorem Nb {α:Type} {z:α} {m:Int}:∀ (n:Nat) (o:List α) (c:B9),(Fz z m n o c).1.length≤o.length+n
 | 0,o,c=>by simp[Fz]
 | n+1,o,c=>by
   unfold Fz;split
   · have:=Nb (z:=z) (m:=m) n (o++[z]) (Ag c 2);simp at this ⊢;omega
   · simp
theorem NA {α:Type} {z:α} {m:Int} {p:α→Prop} (hz:p z):∀ (n:Nat) (o:List α) (c:B9),(∀ x∈o,p x)→∀ x∈(Fz z m n o c).1,p x
 | 0,o,c,h=>h
 | n+1,o,c,h=>by
   unfold Fz;split
   · exact NA hz n _ _ fun x hx=>by
      rcases ACB.1 hx with hx|hx
      · exact h x hx
      · rw[zz9.1 hx];exact hz
   · exact h
def WH (c:B9):Int:=Au (OR c) 16
def PT (c:B9):B9:=Ag (OR c) 16
def oX (x:AK) (c:B9):AK×B9:=(([-1,0,20,21,9223372036854775807,-9223372036854775808].getD (Au c 6).toNat 0,x.2),Ag c 6)
def oT (x:AK) (c:B9):AK×B9:=((x.1,x.2.1,x.2.2.1,x.2.2.2++[[-1,0,1,600,9223372036854775807].getD (Au c 5).toNat 0]),Ag c 5)
def pP (x:AK) (c:B9):AK×B9:=((x.1,x.2.1,x.2.2.1++[(2*Bw x,JW c 4)],x.2.2.2),Pk c 4)
def pQ (x:AK) (c:B9):AK×B9:=((x.1,x.2.1++[(Au c 4 - 1,[-1,1,2,31,32].getD (Au (Ag c 4) 5).toNat 0,[0])],x.2.2),Ag (Ag c 4) 5)
def pG (x:AK) (c:B9):AK×B9:=((x.1,x.2.1,x.2.2.1,(Fz 1 16 (18 - x.2.2.2.length) x.2.2.2 c).1),(Fz 1 16 (18 - x.2.2.2.length) x.2.2.2 c).2)
def nG (x:AK) (c:B9):AK×B9:=if GQ c 6=true then ((x.1,x.2.1,(Fz (2,1) 300 (302 - x.2.2.1.length) x.2.2.1 (Ag c 6)).1,x.2.2.2),(Fz ((2,1):Ai) 300 (302 - x.2.2.1.length) x.2.2.1 (Ag c 6)).2) else (x,Ag c 6)
def Xb (c:B9):AK×B9 :=
 if WH c=0 then oX (Fd c) (PT c) else if WH c=1 then oT (Fd c) (PT c) else if WH c=2 then pP (Fd c) (PT c) else if WH c=3 then pQ (Fd c) (PT c)
 else if WH c=4 then pG (Fd c) (PT c) else if WH c=5 then nG (Fd c) (PT c) else (Fd c,PT c)
theorem kK {c:B9} (h:c.ok):(PT c).ok:=Aw (Ys h)
def M7 (x:AK):Prop:=Cz 1000 x∧JO x
theorem PN {c:B9}:M7 (Fd c):=by
 have hok:=MF (c:=c);obtain⟨⟨n1,n2,n3,n4,n5,n6⟩,o1,o2,o3⟩:=AA hok;exact⟨⟨by omega,fun s hs=>by have:=DE (o1 s hs);omega,by omega,by omega⟩,CJ hok⟩
theorem TR {n:Int} (h:-1≤n∧n≤1000000):Jy n:=⟨by omega,by omega⟩
theorem nE {x:AK} {c:B9} (hok:Al x=true) (hl:x.2.1.length≤3∧x.2.2.1.length≤14∧x.2.2.2.length≤4) (h:M7 x):M7 (oX x c).1∧M7 (oT x c).1∧M7 (pP x c).1∧M7 (pQ x c).1∧M7 (pG x c).1∧M7 (nG x c).1:=by
 obtain⟨⟨f1,f2,f3,f4⟩,g1,g2,g3,g4⟩:=h;obtain⟨⟨n1,n2,n3,n4,n5,n6⟩,o1,o2,o3⟩:=AA hok;refine⟨⟨⟨f1,f2,f3,f4⟩,g1,g2,g3,?_⟩,⟨⟨f1,f2,f3,?_⟩,?_,g2,g3,g4⟩,⟨⟨f1,f2,?_,f4⟩,g1,g2,?_,g4⟩,⟨⟨?_,?_,f3,f4⟩,g1,?_,g3,g4⟩,⟨⟨f1,f2,f3,?_⟩,?_,g2,g3,g4⟩,?_⟩
 · show Jy ([-1,0,20,21,9223372036854775807,-9223372036854775808].getD (Au c 6).toNat 0)
   match (Au c 6).toNat with
   | 0=>exact⟨by decide,by decide⟩
   | 1=>exact⟨by decide,by decide⟩
   | 2=>exact⟨by decide,by decide⟩
   | 3=>exact⟨by decide,by decide⟩
   | 4=>exact⟨by decide,by decide⟩
   | 5=>exact⟨by decide,by decide⟩
   | k+6=>exact⟨by simp,by simp⟩
 · show (x.2.2.2++[_]).length≤1000;simp;omega
 · intro y hy;rcases ACB.1 (show y∈x.2.2.2++[[-1,0,1,600,9223372036854775807].getD (Au c 5).toNat 0] from hy) with hy|hy
   · exact g1 y hy
   · rw[zz9.1 hy];exact MH ⟨by decide,by decide⟩ ⟨by decide,by decide⟩ ⟨by decide,by decide⟩ ⟨by decide,by decide⟩ ⟨by decide,by decide⟩
 · show (x.2.2.1++[_]).length≤1000;simp;omega
 · intro a ha;rcases ACB.1 (show a∈x.2.2.1++[(2*Bw x,JW c 4)] from ha) with ha|ha
   · exact g3 a ha
   · rw[zz9.1 ha];refine⟨TR (by simp only;omega),?_⟩;show Jy (JW c 4);unfold JW;split
     · exact MH ⟨by decide,by decide⟩ ⟨by decide,by decide⟩ ⟨by decide,by decide⟩ ⟨by decide,by decide⟩ ⟨by decide,by decide⟩
     · have:=AV (Ag c 15) (n:=4) (by omega);exact TR (by omega)
 · show (x.2.1++[_]).length≤1000;simp;omega
 · intro s hs;rcases ACB.1 (show s∈x.2.1++[(Au c 4 - 1,[-1,1,2,31,32].getD (Au (Ag c 4) 5).toNat 0,[0])] from hs) with hs|hs
   · exact f2 s hs
   · rw[zz9.1 hs];simp
 · intro s hs;rcases ACB.1 (show s∈x.2.1++[(Au c 4 - 1,[-1,1,2,31,32].getD (Au (Ag c 4) 5).toNat 0,[0])] from hs) with hs|hs
   · exact g2 s hs
   · rw[zz9.1 hs];have:=AV c (n:=4) (by omega);refine⟨TR (by simp only;omega),MH ⟨by decide,by decide⟩ ⟨by decide,by decide⟩ ⟨by decide,by decide⟩ ⟨by decide,by decide⟩ ⟨by decide,by decide⟩,fun y hy=>?_⟩;rw[zz9.1 hy];exact⟨by decide,by decide⟩
 · have:=Nb (z:=(1:Int)) (m:=16) (18 - x.2.2.2.length) x.2.2.2 c;show (Fz 1 16 (18 - x.2.2.2.length) x.2.2.2 c).1.length≤1000;omega
 · exact NA (p:=Jy) ⟨by decide,by decide⟩ _ _ _ g1
 · unfold nG;split
   · have:=Nb (z:=((2,1):Ai)) (m:=300) (302 - x.2.2.1.length) x.2.2.1 (Ag c 6);refine⟨⟨f1,f2,?_,f4⟩,g1,g2,?_,g4⟩
     · show (Fz ((2,1):Ai) 300 (302 - x.2.2.1.length) x.2.2.1 (Ag c 6)).1.length≤1000;omega
     · exact NA (p:=fun a:Ai=>Jy a.1∧Jy a.2) ⟨⟨by decide,by decide⟩,by decide,by decide⟩ _ _ _ g3
   · exact⟨⟨f1,f2,f3,f4⟩,g1,g2,g3,g4⟩
theorem O7 (c:B9):(Fd c).2.1.length≤3∧(Fd c).2.2.1.length≤14∧1≤(Fd c).2.2.2.length∧(Fd c).2.2.2.length≤4:=by
 obtain⟨h1,h2,h3⟩:=LM c;have lS:(Il c).2.length=L4 c:=I7 _;have lA:(Ot c).2.length=LA c:=Kq _;have lO:(PP c).2.length=(Au (Il c).1 4).toNat+1:=IR _;have b4:=AV (Il c).1 (n:=4) (by omega);refine⟨?_,?_,?_,?_⟩
 · show (Il c).2.length≤3;omega
 · show (Ot c).2.length≤14;omega
 · show 1≤(PP c).2.length;omega
 · show (PP c).2.length≤4;omega
theorem cL {c:B9}:M7 (Xb c).1:=by
 obtain⟨l1,l2,l3,l4⟩:=O7 c;obtain⟨t0,t1,t2,t3,t4,t5⟩:=nE (c:=PT c) (MF (c:=c)) ⟨l1,l2,l4⟩ PN;unfold Xb;split
 · exact t0
 split
 · exact t1
 split
 · exact t2
 split
 · exact t3
 split
 · exact t4
 split
 · exact t5
 · exact PN
theorem jB {x:AK} (h:M7 x):Cz 1048576 x:=by
 obtain⟨⟨f1,f2,f3,f4⟩,_⟩:=h;exact⟨by omega,fun s hs=>by have:=f2 s hs;omega,by omega,by omega⟩
theorem Vr (c:B9) (h:c.ok):CG Tryz.prog 32 [.ptr 0 0] [Ce c] (oL (Xb c).1) [Ce (Xb c).2]:=by
 have kD:=RZ c h;have kO:=Zt c h;have kA0:=W8 c h;have kA1:=Yk c h;have kS0:=Yy c h;have kS1:=Xn c h;obtain⟨l1,l2,l3,l4⟩:=O7 c;have hok:=MF (c:=c);have htm:=PN (c:=c);obtain⟨n1,n2,n3,n4,n5,n6⟩:=(AA hok).1;have hCk:=Ys h;have hKk:=kK h;have hb:=AV (OR c) (n:=16) (by omega);have k1:=AG (OR c) 16 hCk (by omega);have eZ:WH c=Au (OR c) 16:=rfl;have eK:PT c=Ag (OR c) 16:=rfl;rw[←eZ,←eK] at k1;rw[←eZ] at hb;unfold Xb;generalize Fd c=x at *;generalize WH c=z at *;generalize PT c=c2 at *;generalize OR c=c1 at *;clear eZ eK;have hnc:=Bt x;obtain⟨I,sq,an,os⟩:=x;simp only at l1 l2 l3 l4 kD kO kA0 kA1 kS0 kS1;refine BA (by kernel_rfl) Tryz.func32 rfl rfl rfl (by simp[Bi,Later]) (by simp[BN,Ah.live]) ?_;by_cases z0:z=0
 · subst z0;have kp:=XB c2 hKk (-1) 0 20 21 9223372036854775807 (-9223372036854775808);simp only[if_true,oX];simp;refine Ac (kD) [] [0] (by simp) ?_;simp;refine Ac (k1) [] [0] (by simp) ?_;simp;refine Ac (kp) [3] [0] (by simp) ?_;simp;exact⟨[0],by simp⟩
 by_cases z1:z=1
 · subst z1;have kp:=Lo c2 hKk (-1) 0 1 600 9223372036854775807;rw[if_neg (by omega),if_pos rfl];simp only[oT];simp;refine Ac (kO) [] [0] (by simp) ?_;simp;refine Ac (k1) [] [0] (by simp) ?_;simp;refine Av [(4,[0,1]),(5,[0,1]),(6,[]),(7,[]),(8,[])] (by kernel_rfl) ?_;simp;refine Ax (kp) [4] [0] (by simp) (by simp[A9]) ?_;simp;refine Ak As rfl (by simp) rfl (by simp) (by simp) (by first | (simp;done)|(simp;omega)) (by simp[AR,AL]) ?_;simp;exact⟨[0],by simp⟩
 by_cases z2:z=2
 · subst z2;have kp:=Rz c2 4 hKk (by omega);rw[if_neg (by omega),if_neg (by omega),if_pos rfl];simp only[pP];have w1:IntKind.i64.wrap (2*Bw (I,sq,an,os))=2*Bw (I,sq,an,os):=Ad (by omega) (by omega);generalize Bw (I,sq,an,os)=nn at *;generalize JW c2 4=v at *;generalize Pk c2 4=c3 at *;by_cases h0:an.length=0
   · have ha:an=[]:=zz7 h0;subst ha;simp;refine Ac (kA0 rfl) [] [0] (by simp) ?_;simp;refine Ac (k1) [] [0] (by simp) ?_;simp;refine Av [(6,[0,1,4]),(7,[0,1]),(8,[0,1]),(9,[]),(10,[]),(11,[])] (by kernel_rfl) ?_;simp;refine Ab (hnc) ?_;simp[w1,Ao];refine Ax (kp) [] [0] (by simp) (by simp[A9]) ?_;simp;refine Ak D0 rfl (by simp) rfl (by simp) (by simp) (by first | (simp;done)|(simp;omega)) (by simp[AR,AL]) ?_;simp;exact⟨[0],by simp[At]⟩
   · simp;refine Ac (kA1 h0) [] [0] (by simp) ?_;simp;refine Ac (k1) [] [0] (by simp) ?_;simp;refine Av [(6,[0,1,4]),(7,[0,1]),(8,[0,1]),(9,[]),(10,[]),(11,[])] (by kernel_rfl) ?_;simp;refine Ab (hnc) ?_;simp[w1,Ao];refine Ax (kp) [] [0] (by simp) (by simp[A9]) ?_;simp;refine Ak D0 rfl (by simp) rfl (by simp) (by simp) (by first | (simp;done)|(simp;omega)) (by simp[AR,AL]) ?_;simp;exact⟨[0],by simp[At]⟩
 by_cases z3:z=3
 · subst z3;have kb:=AG c2 4 hKk (by omega);have rb:=AV c2 (n:=4) (by omega);have kp:=Lo (Ag c2 4) (Aw hKk) (-1) 1 2 31 32;rw[if_neg (by omega),if_neg (by omega),if_neg (by omega),if_pos rfl];simp only[pQ];have w3:IntKind.i64.wrap (Au c2 4 - 1)=Au c2 4 - 1:=Ad (by omega) (by omega);generalize [-1,1,2,31,32].getD (Au (Ag c2 4) 5).toNat 0=v5 at *;generalize Ag (Ag c2 4) 5=c5 at *;generalize Ag c2 4=c4 at *;generalize Au c2 4=v4 at *;by_cases h0:sq.length=0
   · have ha:sq=[]:=zz7 h0;subst ha;simp;refine Ac (kS0 rfl) [] [0] (by simp) ?_;simp;refine Ac (k1) [] [0] (by simp) ?_;simp;refine JL [(3,[0,1,5,6,8]),(4,[0,1,5,6,8]),(7,[0,1,8]),(9,[0,1]),(10,[0,1]),(11,[]),(12,[]),(13,[])] (by kernel_rfl) ?_;simp;refine BK [(3,[0,1,5,6,8])] (by kernel_rfl) ?_;simp[AE,AF,List.erase_cons];refine Ax (kb) [] [0] (by simp) (by simp[A9]) ?_;simp;refine BK [(4,[0,1,5,6,8]),(7,[0,1,8])] (by kernel_rfl) ?_;simp[AE,AF,List.erase_cons,w3];refine⟨?_,?_⟩
     · refine BK [(7,[0,1,8])] (by kernel_rfl) ?_;simp[AE,AF,List.erase_cons];refine Ax (kp) [3] [0] (by simp) (by simp[A9]) ?_;simp;refine BK [(9,[0,1])] (by kernel_rfl) ?_;simp[AE,AF,List.erase_cons,w3];refine BK [(10,[0,1])] (by kernel_rfl) ?_;simp[AE,AF,List.erase_cons];refine BK [(11,[])] (by kernel_rfl) ?_;simp[AE,AF,List.erase_cons]
       first | refine Bs (q:=1) BX (by exact rfl) (by simp) (by exact rfl) (by exact rfl) (by simp) (by simp) (by first | (simp;done)|(simp;omega)) ?_|refine Br BX (by exact rfl) (by simp) (by exact rfl) (by simp) (by first | (simp;done)|(simp;omega)) ?_
       simp;refine BK [(12,[])] (by kernel_rfl) ?_;simp[AE,AF,List.erase_cons];refine BK [(13,[])] (by kernel_rfl) ?_;simp[AE,AF,List.erase_cons];exact⟨[0],by simp[AY,e3]⟩
     · refine Ax (kp) [3] [0] (by simp) (by simp[A9]) ?_;simp;refine BK [(4,[0,1,5,6,8])] (by kernel_rfl) ?_;simp[AE,AF,List.erase_cons,w3];refine BK [(9,[0,1])] (by kernel_rfl) ?_;simp[AE,AF,List.erase_cons,w3];refine BK [(10,[0,1])] (by kernel_rfl) ?_;simp[AE,AF,List.erase_cons];refine BK [(11,[])] (by kernel_rfl) ?_;simp[AE,AF,List.erase_cons]
       first | refine Bs (q:=1) BX (by exact rfl) (by simp) (by exact rfl) (by exact rfl) (by simp) (by simp) (by first | (simp;done)|(simp;omega)) ?_|refine Br BX (by exact rfl) (by simp) (by exact rfl) (by simp) (by first | (simp;done)|(simp;omega)) ?_
       simp;refine BK [(12,[])] (by kernel_rfl) ?_;simp[AE,AF,List.erase_cons];refine BK [(13,[])] (by kernel_rfl) ?_;simp[AE,AF,List.erase_cons];exact⟨[0],by simp[AY,e3]⟩
   · simp;refine Ac (kS1 h0) [] [0] (by simp) ?_;simp;refine Ac (k1) [] [0] (by simp) ?_;simp;refine JL [(3,[0,1,5,6,8]),(4,[0,1,5,6,8]),(7,[0,1,8]),(9,[0,1]),(10,[0,1]),(11,[]),(12,[]),(13,[])] (by kernel_rfl) ?_;simp;refine BK [(3,[0,1,5,6,8])] (by kernel_rfl) ?_;simp[AE,AF,List.erase_cons];refine Ax (kb) [] [0] (by simp) (by simp[A9]) ?_;simp;refine BK [(4,[0,1,5,6,8]),(7,[0,1,8])] (by kernel_rfl) ?_;simp[AE,AF,List.erase_cons,w3];refine⟨?_,?_⟩
     · refine BK [(7,[0,1,8])] (by kernel_rfl) ?_;simp[AE,AF,List.erase_cons];refine Ax (kp) [4] [0] (by simp) (by simp[A9]) ?_;simp;refine BK [(9,[0,1])] (by kernel_rfl) ?_;simp[AE,AF,List.erase_cons,w3];refine BK [(10,[0,1])] (by kernel_rfl) ?_;simp[AE,AF,List.erase_cons];refine BK [(11,[])] (by kernel_rfl) ?_;simp[AE,AF,List.erase_cons]
       first | refine Bs (q:=1) BX (by exact rfl) (by simp) (by exact rfl) (by exact rfl) (by simp) (by simp) (by first | (simp;done)|(simp;omega)) ?_|refine Br BX (by exact rfl) (by simp) (by exact rfl) (by simp) (by first | (simp;done)|(simp;omega)) ?_
       simp;refine BK [(12,[])] (by kernel_rfl) ?_;simp[AE,AF,List.erase_cons];refine BK [(13,[])] (by kernel_rfl) ?_;simp[AE,AF,List.erase_cons];exact⟨[0],by simp[AY,e3]⟩
     · refine Ax (kp) [4] [0] (by simp) (by simp[A9]) ?_;simp;refine BK [(4,[0,1,5,6,8])] (by kernel_rfl) ?_;simp[AE,AF,List.erase_cons,w3];refine BK [(9,[0,1])] (by kernel_rfl) ?_;simp[AE,AF,List.erase_cons,w3];refine BK [(10,[0,1])] (by kernel_rfl) ?_;simp[AE,AF,List.erase_cons];refine BK [(11,[])] (by kernel_rfl) ?_;simp[AE,AF,List.erase_cons]
       first | refine Bs (q:=1) BX (by exact rfl) (by simp) (by exact rfl) (by exact rfl) (by simp) (by simp) (by first | (simp;done)|(simp;omega)) ?_|refine Br BX (by exact rfl) (by simp) (by exact rfl) (by simp) (by first | (simp;done)|(simp;omega)) ?_
       simp;refine BK [(12,[])] (by kernel_rfl) ?_;simp[AE,AF,List.erase_cons];refine BK [(13,[])] (by kernel_rfl) ?_;simp[AE,AF,List.erase_cons];exact⟨[0],by simp[AY,e3]⟩
 by_cases z4:z=4
 · subst z4;rw[if_neg (by omega),if_neg (by omega),if_neg (by omega),if_neg (by omega),if_pos rfl];simp only[pG];generalize hR:Fz 1 16 (18 - os.length) os c2=R;simp;refine Ac (kO) [] [0] (by simp) ?_;simp;refine Ac (k1) [] [0] (by simp) ?_;simp;refine AH [true,false,true,true] (fun p:Nat×List Int×B9=>p.1+p.2.1.length=18∧p.2.1.length≤17∧p.2.2.ok∧Fz 1 16 p.1 p.2.1 p.2.2=R) (fun p:Nat×List Int×B9=>[]) (fun p:Nat×List Int×B9=>fun _=>[Ce p.2.2,zG,.arr 3 true (p.2.1.map (e1 AC)),.var 28 [.d (.int .i64 I),.d (Dh 57 AY sq),.d (Dh 63 At an),.ref 2]]) (fun p:Nat×List Int×B9=>p.1) (18 - os.length,os,c2) ?_ ?_ ?_
   · exact⟨by simp only;omega,by simp only;omega,hKk,hR⟩
   · exact⟨[0,1,2,3],by simp[zG]⟩
   rintro I' S μ hI hS hμ ⟨n,o,d⟩ ⟨q1,q2,q3,q4⟩;simp only at q1 q2 q3 q4;have kb:=AG d 2 q3 (by omega);have r1:=AV d (n:=2) (by omega);have okd:=Aw (n:=2) q3;obtain⟨m,rfl⟩:∃ m,n=m+1:=⟨n - 1,by omega⟩;rw[Fz] at q4;generalize Au d 2=v at *;generalize Ag d 2=d2 at *;have w1:IntKind.i64.wrap (16+v)=16+v:=Ad (by omega) (by omega);by_cases hlt:(o.length:Int)<16+v
   · rw[if_pos hlt] at q4;simp;refine Av [(4,[0,1,2]),(5,[0,1,2]),(6,[])] (by kernel_rfl) ?_;simp;refine Ax (kb) [] [0] (by simp) (by simp[A9]) ?_;simp[w1,hlt];refine Ak As rfl (by simp) rfl (by simp) (by simp) (by first | (simp;done)|(simp;omega)) (by simp[AR,AL]) ?_;simp;exact Ae hI hS hμ (m,o++[1],d2) ⟨by simp at q1 ⊢;omega,by simp;omega,okd,q4⟩ (by simp) ⟨[0,1,5,3],by simp[e1,AC]⟩
   · rw[if_neg hlt] at q4;subst q4;simp;refine Av [(4,[0,1,2]),(5,[0,1,2]),(6,[])] (by kernel_rfl) ?_;simp;refine Ax (kb) [] [0] (by simp) (by simp[A9]) ?_;simp[w1,hlt];exact⟨[0],by simp⟩
 rw[if_neg (by omega),if_neg (by omega),if_neg (by omega),if_neg (by omega),if_neg (by omega)];have b0:(z==0)=false:=by simpa using z0
 have b1:(z==1)=false:=by simpa using z1
 have b2:(z==2)=false:=by simpa using z2
 have b3:(z==3)=false:=by simpa using z3
 have b4:(z==4)=false:=by simpa using z4
 by_cases z5:z=5
 · subst z5;clear b0 b1 b2 b3 b4;rw[if_pos rfl];have ko:=FY c2 6 hKk (by omega);have hK3:=Aw (n:=6) hKk;unfold nG;generalize GQ c2 6=ob at *;generalize Ag c2 6=c3 at *
   cases ob with
   | false =>
     rw[if_neg (by simp)];simp;refine Ac (kD) [] [0] (by simp) ?_;simp;refine Ac (k1) [] [0] (by simp) ?_;simp;refine Ac (ko) [] [0] (by simp) ?_;simp;exact⟨[0],by simp⟩
   | true =>
     rw[if_pos rfl];simp only;generalize hR:Fz ((2,1):Ai) 300 (302 - an.length) an c3=R;by_cases h0:an.length=0
     · have ha:an=[]:=zz7 h0;subst ha;simp;refine Ac (kA0 rfl) [] [0] (by simp) ?_;simp;refine Ac (k1) [] [0] (by simp) ?_;simp;refine Ac (ko) [] [0] (by simp) ?_;simp;refine AH [true,false,true,true] (fun p:Nat×List Ai×B9=>p.1+p.2.1.length=302∧p.2.1.length≤301∧p.2.2.ok∧Fz (2,1) 300 p.1 p.2.1 p.2.2=R) (fun p:Nat×List Ai×B9=>[]) (fun p:Nat×List Ai×B9=>fun _=>[Ce p.2.2,zG,.var 28 [.d (.int .i64 I),.d (Dh 57 AY sq),nC 63 p.2.1.length 3,.d (Dh 3 (e1 AC) os)]]++nS 63 p.2.1.length (p.2.1.map At)) (fun p:Nat×List Ai×B9=>p.1) (302 - ([]:List Ai).length,[],c3) ?_ ?_ ?_
       · exact⟨by simp only;omega,by simp only;omega,hK3,hR⟩
       · exact⟨[0,1,2],by simp[nC,nS]⟩
       rintro I' S μ hI hS hμ ⟨n,o,d⟩ ⟨q1,q2,q3,q4⟩;simp only at q1 q2 q3 q4;have kb:=AG d 2 q3 (by omega);have r1:=AV d (n:=2) (by omega);have okd:=Aw (n:=2) q3;obtain⟨m,rfl⟩:∃ m,n=m+1:=⟨n - 1,by omega⟩;rw[Fz] at q4;generalize Au d 2=v at *;generalize Ag d 2=d2 at *;have w1:IntKind.i64.wrap (300+v)=300+v:=Ad (by omega) (by omega);by_cases hlt:(o.length:Int)<300+v
       · rw[if_pos hlt] at q4;by_cases ho0:o.length=0
         · have ho:o=[]:=zz7 ho0;subst ho;have hlt':(0:Int)<300+v:=by simpa using hlt
           simp only[List.length_nil];have hnC:nC 63 0 3=.nil 63:=rfl;have hnS:∀ es,nS 63 0 es=[]:=fun es=>rfl;simp[hnC,hnS];refine Av [(4,[0,1,2]),(5,[0,1,2]),(6,[])] (by kernel_rfl) ?_;simp;refine Ax (kb) [] [0] (by simp) (by simp[A9]) ?_;simp[w1,hlt'];refine Ak D0 rfl (by simp) rfl (by simp) (by simp) (by first | (simp;done)|(simp;omega)) (by simp[AR,AL]) ?_;simp;exact Ae hI hS hμ (m,[]++[(2,1)],d2) ⟨by simp at q1 ⊢;omega,by simp,okd,q4⟩ (by simp) ⟨[0,1,2,4],by simp[nC,nS,At,e2,AC]⟩
         · have hnC:nC 63 o.length 3=.ref 3:=if_neg ho0;have hnS:∀ es,nS 63 o.length es=[.arr 63 true es]:=fun es=>if_neg ho0;simp[hnC,hnS];refine Av [(4,[0,1,2]),(5,[0,1,2]),(6,[])] (by kernel_rfl) ?_;simp;refine Ax (kb) [] [0] (by simp) (by simp[A9]) ?_;simp[w1,hlt];refine Ak D0 rfl (by simp) rfl (by simp) (by simp) (by first | (simp;done)|(simp;omega)) (by simp[AR,AL]) ?_;simp;exact Ae hI hS hμ (m,o++[(2,1)],d2) ⟨by simp at q1 ⊢;omega,by simp;omega,okd,q4⟩ (by simp) ⟨[0,1,2,5],by simp[nC,nS,At,e2,AC]⟩
       · rw[if_neg hlt] at q4;subst q4;have ho0:¬ o.length=0:=by omega
         have hnC:nC 63 o.length 3=.ref 3:=if_neg ho0;have hnS:∀ es,nS 63 o.length es=[.arr 63 true es]:=fun es=>if_neg ho0;simp[hnC,hnS];refine Av [(4,[0,1,2]),(5,[0,1,2]),(6,[])] (by kernel_rfl) ?_;simp;refine Ax (kb) [] [0] (by simp) (by simp[A9]) ?_;simp[w1,hlt];exact⟨[0],by simp⟩
     · simp;refine Ac (kA1 h0) [] [0] (by simp) ?_;simp;refine Ac (k1) [] [0] (by simp) ?_;simp;refine Ac (ko) [] [0] (by simp) ?_;simp;refine AH [true,false,true,true] (fun p:Nat×List Ai×B9=>p.1+p.2.1.length=302∧p.2.1.length≤301∧p.2.2.ok∧Fz (2,1) 300 p.1 p.2.1 p.2.2=R) (fun p:Nat×List Ai×B9=>[(3,.ptr 2 0)]) (fun p:Nat×List Ai×B9=>fun _=>[Ce p.2.2,zG,.var 28 [.d (.int .i64 I),.d (Dh 57 AY sq),nC 63 p.2.1.length 3,.d (Dh 3 (e1 AC) os)]]++nS 63 p.2.1.length (p.2.1.map At)) (fun p:Nat×List Ai×B9=>p.1) (302 - an.length,an,c3) ?_ ?_ ?_
       · exact⟨by simp only;omega,by simp only;omega,hK3,hR⟩
       · exact⟨[0,1,3,2],by simp[nC,nS,show ¬ an=[] from fun e=>h0 (by rw[e];rfl)]⟩
       rintro I' S μ hI hS hμ ⟨n,o,d⟩ ⟨q1,q2,q3,q4⟩;simp only at q1 q2 q3 q4;have kb:=AG d 2 q3 (by omega);have r1:=AV d (n:=2) (by omega);have okd:=Aw (n:=2) q3;obtain⟨m,rfl⟩:∃ m,n=m+1:=⟨n - 1,by omega⟩;rw[Fz] at q4;generalize Au d 2=v at *;generalize Ag d 2=d2 at *;have w1:IntKind.i64.wrap (300+v)=300+v:=Ad (by omega) (by omega);by_cases hlt:(o.length:Int)<300+v
       · rw[if_pos hlt] at q4;by_cases ho0:o.length=0
         · have ho:o=[]:=zz7 ho0;subst ho;have hlt':(0:Int)<300+v:=by simpa using hlt
           simp only[List.length_nil];have hnC:nC 63 0 3=.nil 63:=rfl;have hnS:∀ es,nS 63 0 es=[]:=fun es=>rfl;simp[hnC,hnS];refine Av [(4,[0,1,2]),(5,[0,1,2]),(6,[])] (by kernel_rfl) ?_;simp;refine Ax (kb) [] [0] (by simp) (by simp[A9]) ?_;simp[w1,hlt'];refine Ak D0 rfl (by simp) rfl (by simp) (by simp) (by first | (simp;done)|(simp;omega)) (by simp[AR,AL]) ?_;simp;exact Ae hI hS hμ (m,[]++[(2,1)],d2) ⟨by simp at q1 ⊢;omega,by simp,okd,q4⟩ (by simp) ⟨[0,1,2,4],by simp[nC,nS,At,e2,AC]⟩
         · have hnC:nC 63 o.length 3=.ref 3:=if_neg ho0;have hnS:∀ es,nS 63 o.length es=[.arr 63 true es]:=fun es=>if_neg ho0;simp[hnC,hnS];refine Av [(4,[0,1,2]),(5,[0,1,2]),(6,[])] (by kernel_rfl) ?_;simp;refine Ax (kb) [] [0] (by simp) (by simp[A9]) ?_;simp[w1,hlt];refine Ak D0 rfl (by simp) rfl (by simp) (by simp) (by first | (simp;done)|(simp;omega)) (by simp[AR,AL]) ?_;simp;exact Ae hI hS hμ (m,o++[(2,1)],d2) ⟨by simp at q1 ⊢;omega,by simp;omega,okd,q4⟩ (by simp) ⟨[0,1,2,5],by simp[nC,nS,At,e2,AC]⟩
       · rw[if_neg hlt] at q4;subst q4;have ho0:¬ o.length=0:=by omega
         have hnC:nC 63 o.length 3=.ref 3:=if_neg ho0;have hnS:∀ es,nS 63 o.length es=[.arr 63 true es]:=fun es=>if_neg ho0;simp[hnC,hnS];refine Av [(4,[0,1,2]),(5,[0,1,2]),(6,[])] (by kernel_rfl) ?_;simp;refine Ax (kb) [] [0] (by simp) (by simp[A9]) ?_;simp[w1,hlt];exact⟨[0],by simp⟩
 · have b5:(z==5)=false:=by simpa using z5
   rw[if_neg z5];simp;refine Ac (kD) [] [0] (by simp) ?_;simp;refine Ac (k1) [] [0] (by simp) ?_;simp[b0,b1,b2,b3,b4,b5];exact⟨[0],by simp⟩
end Go.Proofs.YtnjedabjbeipeaaGreat
