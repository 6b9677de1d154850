/-
  Nets as the draws make them. Plain lemmas.
  Conditions: those typed in each theorem.
-/
import Derived.Test.YtnjedabjbeipeaaGreatUf
import Derived.Test.YtnjedabjbeipeaaGreatLh
namespace Go.Proofs.YtnjedabjbeipeaaGreat
open Go.RowKit Go.ChangeShapes Go.WideShapes
set_option linter.unusedSimpArgs false
set_option linter.unusedVariables false
set_option maxRecDepth 100000
set_option maxHeartbeats 10000000
theorem Qc {f:Int}:∀ {xs:List Ai} {k:Nat},(∀ (j:Nat) (a:Ai),xs[j]? = some a→(0≤a.1∧a.1<2*(f+(k+j:Nat)))∧0≤a.2∧a.2<2*(f+(k+j:Nat)))→BR f k xs=true
 | [],_,_=>rfl
 | a::xs,k,h=>by
   have h0:=h 0 a rfl;unfold BR;rw[Bool.and_eq_true];refine⟨?_,Qc fun j b hb=>?_⟩
   · unfold Dv;rw[Bool.and_eq_true];exact⟨AP.2 (by omega),AP.2 (by omega)⟩
   · have:=h (j+1) b (by simpa using hb);omega
theorem LG {x:AK} (h1:0≤x.1∧x.1≤20) (h2:x.2.1.length≤12) (h3:x.2.2.1.length≤300) (h4:x.2.2.2.length≤16) (hs:∀ s∈x.2.1,Bz s=true) (ho:∀ y∈x.2.2.2,0≤y∧y<2*(A0 x:Int)) (hi:∀ s∈x.2.1,∀ y∈s.2.2,0≤y∧y<2*(A0 x:Int))
 (ha:BR (Aa x) 0 x.2.2.1=true):Al x=true:=by
 have hn:Bw x=1+x.1+x.2.1.length+x.2.2.1.length:=by
  unfold Bw;rw[if_pos ⟨AP.2 h1,h2,h3,h4⟩]
 have hN:(A0 x:Int)=1+x.1+x.2.1.length+x.2.2.1.length:=by unfold A0;omega
 have hF:(Aa x:Int)=1+x.1+x.2.1.length:=by unfold Aa;omega
 unfold Al;rw[hn];simp only[Bool.and_eq_true,decide_eq_true_eq];refine⟨⟨⟨by omega,zz8.2 hs⟩,zz8.2 fun y hy=>AP.2 ?_⟩,by rw[←hF];exact ha⟩
 · rcases ACB.1 hy with hy|hy
   · have:=ho y hy;omega
   · obtain⟨l,hl,hy⟩:=List.mem_flatten.1 hy;obtain⟨s,hs',rfl⟩:=ABc.1 hl;have:=hi s hs' y hy;omega
def Kl (a b:Int):Int:=if b<a then b else a
def uQ (k:Int) (p:B9×List Ai):B9×List Ai:=(Ag (Ag p.1 (Kl (k - 1) 14)) k,p.2++[(k - 1 - Au p.1 (Kl (k - 1) 14),Au (Ag p.1 (Kl (k - 1) 14)) k)])
def Wh (F:Nat) (c:B9):Nat→B9×List Ai
 | 0=>(c,[])
 | i+1=>uQ (2*((F:Int)+i)) (Wh F c i)
def XE (top:Int) (c:B9):B9×Cr :=
 (Ag (Ag (Ag (Ag (Ag c 32) top) top) top) top,(1,Au c 32,[Au (Ag c 32) top,Au (Ag (Ag c 32) top) top,Au (Ag (Ag (Ag c 32) top) top) top,Au (Ag (Ag (Ag (Ag c 32) top) top) top) top]))
def W5 (top:Int) (c:B9):B9×Cr:=(Ag (Ag c 2) (Kl top 12),(0,Au c 2,[top - 1 - Au (Ag c 2) (Kl top 12)]))
def K9 (top:Int) (c:B9):B9×Cr:=if GQ c 6=true then XE top (Ag c 6) else W5 top (Ag c 6)
def NM (top:Int) (c:B9):Nat→B9×List Cr
 | 0=>(c,[])
 | i+1=>((K9 top (NM top c i).1).1,(NM top c i).2++[(K9 top (NM top c i).1).2])
def H6 (top:Int) (c:B9):Nat→B9×List Int
 | 0=>(c,[])
 | i+1=>(Ag (H6 top c i).1 (Kl top 12),(H6 top c i).2++[top - 1 - Au (H6 top c i).1 (Kl top 12)])
theorem Kq {F:Nat} {c:B9}:∀ i,(Wh F c i).2.length=i
 | 0=>rfl
 | i+1=>by simp[Wh,uQ,Kq i]
theorem Tp {F:Nat} {c:B9} (h:c.ok):∀ i,(Wh F c i).1.ok
 | 0=>h
 | i+1=>Aw (Aw (Tp h i))
theorem Gt {a b:Int} (ha:0<a) (hb:0<b):0<Kl a b∧Kl a b≤a∧Kl a b≤b:=by unfold Kl;split<;>omega
theorem fN {F:Nat} {c:B9} (hF:1≤F):∀ (i k:Nat) (a:Ai),(Wh F c i).2[k]? = some a→(0≤a.1∧a.1<2*((F:Int)+k))∧0≤a.2∧a.2<2*((F:Int)+k)
 | 0,_,_,h=>by simp[Wh] at h
 | i+1,k,a,h=>by
   have hl:=Kq (F:=F) (c:=c) i;simp only[Wh,uQ] at h;by_cases hk:k<i
   · rw[zz4 (by omega)] at h;exact fN hF i k a h
   · have hk':k=i:=by
      have:=(zz1.1 h).1;simp at this;omega
     subst hk';rw[zz5 (by omega),hl,Nat.sub_self] at h;simp only[List.getElem?_cons_zero,Option.some.injEq] at h;subst h;have m:=Gt (a:=2*((F:Int)+k) - 1) (b:=14) (by omega) (by omega);have b1:=AV (Wh F c k).1 m.1;have b2:=AV (Ag (Wh F c k).1 (Kl (2*((F:Int)+k) - 1) 14)) (n:=2*((F:Int)+k)) (by omega);simp only;omega
theorem mR {top:Int} {c:B9} (h:c.ok):(K9 top c).1.ok:=by
 unfold K9;split
 · exact Aw (Aw (Aw (Aw (Aw (Aw h)))))
 · exact Aw (Aw (Aw h))
theorem bJ {top:Int} {c:B9} (ht:0<top):Bz (K9 top c).2=true∧∀ y∈(K9 top c).2.2.2,0≤y∧y<top:=by
 unfold K9;split
 · have b0:=AV (Ag c 6) (n:=32) (by omega);have b1:=AV (Ag (Ag c 6) 32) ht;have b2:=AV (Ag (Ag (Ag c 6) 32) top) ht;have b3:=AV (Ag (Ag (Ag (Ag c 6) 32) top) top) ht;have b4:=AV (Ag (Ag (Ag (Ag (Ag c 6) 32) top) top) top) ht;refine⟨?_,fun y hy=>?_⟩
   · have hr:DM (Au (Ag c 6) 32) 0 31=true:=AP.2 (by omega);simp[Bz,XE,hr]
   · simp only[XE,List.mem_cons,List.not_mem_nil,or_false] at hy;rcases hy with rfl|rfl|rfl|rfl<;>assumption
 · have m:=Gt ht (b:=12) (by omega);have b0:=AV (Ag c 6) (n:=2) (by omega);have b1:=AV (Ag (Ag c 6) 2) m.1;refine⟨?_,fun y hy=>?_⟩
   · have hr:DM (Au (Ag c 6) 2) 0 1=true:=AP.2 (by omega);simp[Bz,W5,hr]
   · simp only[W5,List.mem_cons,List.not_mem_nil,or_false] at hy;subst hy;omega
theorem I7 {top:Int} {c:B9}:∀ i,(NM top c i).2.length=i
 | 0=>rfl
 | i+1=>by simp[NM,I7 i]
theorem MT {top:Int} {c:B9} (h:c.ok):∀ i,(NM top c i).1.ok
 | 0=>h
 | i+1=>mR (MT h i)
theorem Wg {top:Int} {c:B9} (ht:0<top):∀ i,∀ s∈(NM top c i).2,Bz s=true∧∀ y∈s.2.2,0≤y∧y<top
 | 0,s,h=>by simp[NM] at h
 | i+1,s,h=>by
   rcases ACB.1 h with h|h
   · exact Wg ht i s h
   · rw[zz9.1 h];exact bJ ht
theorem IR {top:Int} {c:B9}:∀ i,(H6 top c i).2.length=i
 | 0=>rfl
 | i+1=>by simp[H6,IR i]
theorem Ny {top:Int} {c:B9} (h:c.ok):∀ i,(H6 top c i).1.ok
 | 0=>h
 | i+1=>Aw (Ny h i)
theorem WF {top:Int} {c:B9} (ht:0<top):∀ i,∀ y∈(H6 top c i).2,0≤y∧y<top
 | 0,s,h=>by simp[H6] at h
 | i+1,s,h=>by
   rcases ACB.1 h with h|h
   · exact WF ht i s h
   · rw[zz9.1 h];have m:=Gt ht (b:=12) (by omega);have b1:=AV (H6 top c i).1 m.1;omega
def jW (x:AK):List Int×List Ai×Bool:=B0 x (Aa x) (-1) 0 (BB (Aa x)) [] x.2.2.1.length
def hsP (x:AK):AK:=(x.1,x.2.1.map (Dr (jW x).1),(jW x).2.1,x.2.2.2.map (Aq (jW x).1))
theorem Xq {fa:Int} {an:List Ai} {a b:Int} (hf:0≤fa) (ha:0≤a) (hb:0≤b) (h:an.length<300):0≤AZ fa an a b:=by
 unfold AZ;split
 · exact (SZ (n:=a+b+1) (by omega) (by omega)).1
 · split
   · omega
   · first | omega|(rw[if_pos h];omega)
theorem X2 {x:AK} (hok:Al x=true):∀ i,i≤x.2.2.1.length→Jr (Aa x) (Aa x+i) (B0 x (Aa x) (-1) 0 (BB (Aa x)) [] i):=fun i hi=>by
 obtain⟨⟨n1,n2,n3,n4,n5,n6⟩,-,-,-⟩:=AA hok;obtain⟨hF,hgl,hNi,hno⟩:=A7 hok;refine (LK hok (by omega) (by omega) ?_ i hi).1;exact⟨fun _=>CO,by simp[CO],HB (by simp),by simp,rfl⟩
theorem oF {x:AK} (hok:Al x=true) (h3:x.2.2.1.length<300):∀ i,i≤x.2.2.1.length→(B0 x (Aa x) (-1) 0 (BB (Aa x)) [] i).2.2=true∧(B0 x (Aa x) (-1) 0 (BB (Aa x)) [] i).2.1.length≤i
 | 0,_=>⟨rfl,Nat.le_refl _⟩
 | i+1,hi=>by
   obtain⟨h1,h2⟩:=oF hok h3 i (by omega);have I:=X2 hok i (by omega);obtain⟨⟨n1,n2,n3,n4,n5,n6⟩,-,-,-⟩:=AA hok;have hN:=Bp x;obtain⟨-,a1,a2,a3,a4,a5,a6⟩:=CW hok (v:=Aa x+i) (by omega) (by omega);unfold B0;generalize B0 x (Aa x) (-1) 0 (BB (Aa x)) [] i=s at *;obtain⟨to,an,b⟩:=s;simp only at h1 h2 I ⊢;have hpl:=I.pl;have han:=I.an;simp only at hpl han;have hF1:1≤Aa x:=by unfold Aa;omega
   have hA:=Bn (l:=(Aj x (Aa x+i)).1) (BH hpl (by omega) _) (by unfold Aa;omega);have hB:=Bn (l:=(Aj x (Aa x+i)).2) (BH hpl (by omega) _) (by unfold Aa;omega);have hv:=Xq (fa:=Aa x) (an:=an) (by omega) hA.1 hB.1 (by omega);have hl:=A3 (an:=an) (a:=Aq to (Aj x (Aa x+i)).1) (b:=Aq to (Aj x (Aa x+i)).2);rw[if_neg (by rw[h1];simp),if_neg (by omega),if_neg (by omega)];exact⟨rfl,by simp only;omega⟩
theorem ZR {pl:List Int} {s:Cr} (h:Bz s=true):Bz (Dr pl s)=true:=by
 unfold Bz Dr at *;simpa using h
theorem JH {x:AK} (hok:Al x=true) {to:List Int} {an:List Ai} (h3:an.length≤300) (hp:Jw (Aa x+an.length) to) (ha:BR (Aa x) 0 an=true):Al ((x.1,x.2.1.map (Dr to),an,x.2.2.2.map (Aq to)):AK)=true:=by
 obtain⟨⟨n1,n2,n3,n4,n5,n6⟩,o1,o2,o3⟩:=AA hok;have hF1:1≤Aa x∧Aa x≤33:=by unfold Aa;omega
 have hm:∀ l,0≤Aq to l∧Aq to l<2*((Aa x:Int)+an.length):=fun l=>Bn (BH hp (by omega) _) (by omega);have hG:Aa ((x.1,x.2.1.map (Dr to),an,x.2.2.2.map (Aq to)):AK)=Aa x:=by unfold Aa;simp
 have hN:(A0 ((x.1,x.2.1.map (Dr to),an,x.2.2.2.map (Aq to)):AK):Int)=(Aa x:Int)+an.length:=by
  rw[Bp,hG];simp
 refine LG ⟨n1,n2⟩ (by simpa using n3) h3 (by simpa using n5) (fun s hs=>?_) (fun y hy=>?_) (fun s hs y hy=>?_) (by rw[hG];exact ha)
 · obtain⟨s0,hs0,rfl⟩:=ABc.1 hs;exact ZR (o1 s0 hs0)
 · obtain⟨y0,-,rfl⟩:=ABc.1 hy;rw[hN];exact hm y0
 · obtain⟨s0,hs0,rfl⟩:=ABc.1 hs;obtain⟨y0,-,rfl⟩:=ABc.1 (show y∈s0.2.2.map (Aq to) from hy);rw[hN];exact hm y0
theorem pN {x:AK} (hok:Al x=true):Al (hsP x)=true:=by
 have I:=X2 hok _ (Nat.le_refl _);exact JH hok I.an I.pl I.ok
def Ix (y:AK) (keep:List Bool):Nat→List Ai×List Int
 | 0=>([],BB (Aa y))
 | i+1=>if AX keep (Aa y+i)=true then ((Ix y keep i).1++[(Aq (Ix y keep i).2 (Aj y (Aa y+i)).1,Aq (Ix y keep i).2 (Aj y (Aa y+i)).2)],(Ix y keep i).2++[2*((Aa y:Int)+(Ix y keep i).1.length)])
   else ((Ix y keep i).1,(Ix y keep i).2++[0])
def xA (y:AK) (keep:List Bool):AK:=(y.1,y.2.1.map (Dr (Ix y keep y.2.2.1.length).2),(Ix y keep y.2.2.1.length).1,y.2.2.2.map (Aq (Ix y keep y.2.2.1.length).2))
theorem Tu {f:Int} {an:List Ai} {a:Ai} (h:BR f 0 an=true) (ha:Dv (f+an.length) a=true):BR f 0 (an++[a])=true:=by
 have:=F0 (f:=f) (xs:=an++[a]) (k:=an.length) (x:=a) (by simp);rw[AB8 (by simp),List.take_left' rfl,h,Bool.true_and] at this;rw[this,ha]
theorem Xs {y:AK} {keep:List Bool} (hok:Al y=true):∀ i,i≤y.2.2.1.length→(Ix y keep i).1.length≤i∧(Ix y keep i).2.length=Aa y+i∧Jw (Aa y+(Ix y keep i).1.length) (Ix y keep i).2∧BR (Aa y) 0 (Ix y keep i).1=true
 | 0,_=>⟨Nat.le_refl _,CO,HB (by simp[Ix]),rfl⟩
 | i+1,hi=>by
   obtain⟨h1,h2,h3,h4⟩:=Xs (keep:=keep) hok i (by omega);obtain⟨⟨n1,n2,n3,n4,n5,n6⟩,-,-,-⟩:=AA hok;have hF1:1≤Aa y∧Aa y≤33:=by unfold Aa;omega
   unfold Ix;generalize Ix y keep i=s at *;obtain⟨an,to⟩:=s;simp only at h1 h2 h3 h4 ⊢;have hm:∀ l,0≤Aq to l∧Aq to l<2*((Aa y:Int)+an.length):=fun l=>Bn (BH h3 (by omega) _) (by omega);split
   · refine⟨by simp;omega,by simp;omega,?_,Tu h4 ?_⟩
     · intro v hv;simp only[AB0,List.length_cons,List.length_nil] at hv ⊢;rcases ACB.1 hv with hv|hv
       · have:=h3 v hv;omega
       · simp only[zz9] at hv;omega
     · unfold Dv;have ma:=hm (Aj y (Aa y+i)).1;have mb:=hm (Aj y (Aa y+i)).2;rw[Bool.and_eq_true];exact⟨AP.2 (by omega),AP.2 (by omega)⟩
   · refine⟨by show an.length≤_;omega,by simp;omega,?_,h4⟩;intro v hv;rcases ACB.1 hv with hv|hv
     · exact h3 v hv
     · simp only[zz9] at hv;omega
theorem Tl {y:AK} {keep:List Bool} (hok:Al y=true):Al (xA y keep)=true:=by
 obtain⟨h1,h2,h3,h4⟩:=Xs (keep:=keep) hok _ (Nat.le_refl _);obtain⟨⟨n1,n2,n3,n4,n5,n6⟩,-,-,-⟩:=AA hok;exact JH hok (by omega) h3 h4
def DS (y:AK):List Bool:=H9 y (Kt (List.replicate (A0 y) false) (Ay y) (Ay y).length)
def Ia (y:AK):AK:=xA y (DS y)
def CB (x:AK):AK:=Ia (hsP x)
theorem J3 {x:AK} (hok:Al x=true):Al (CB x)=true:=Tl (pN hok)
end Go.Proofs.YtnjedabjbeipeaaGreat
