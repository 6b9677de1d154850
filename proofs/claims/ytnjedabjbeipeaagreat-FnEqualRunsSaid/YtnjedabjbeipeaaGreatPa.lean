/-
  Nets as the draws make them. Plain lemmas.
  Conditions: those typed in each theorem.
-/
import Derived.Test.YtnjedabjbeipeaaGreatUf
import Derived.Test.YtnjedabjbeipeaaGreatLh
namespace Go.Proofs.YtnjedabjbeipeaaGreat
open Go.RowKit Go.ChangeShapes Go.WideShapes
set_option linter.unusedSimpArgs false
set_option linter.unusedVariables false
set_option maxRecDepth 100000
set_option maxHeartbeats 10000000
theorem PX {f:Int}:∀ {xs:List Ai} {k:Nat},(∀ (j:Nat) (a:Ai),xs[j]? = some a→(0≤a.1∧a.1<2*(f+(k+j:Nat)))∧0≤a.2∧a.2<2*(f+(k+j:Nat)))→BU f k xs=true
 | [],_,_=>rfl
 | a::xs,k,h=>by
   have h0:=h 0 a rfl;unfold BU;rw[Bool.and_eq_true];refine⟨?_,PX fun j b hb=>?_⟩
   · unfold DF;rw[Bool.and_eq_true];exact⟨AP.2 (by omega),AP.2 (by omega)⟩
   · have:=h (j+1) b (by simpa using hb);omega
theorem Mn {x:AK} (h1:0≤x.1∧x.1≤20) (h2:x.2.1.length≤12) (h3:x.2.2.1.length≤300) (h4:x.2.2.2.length≤16) (hs:∀ s∈x.2.1,Bx s=true) (ho:∀ y∈x.2.2.2,0≤y∧y<2*(A0 x:Int)) (hi:∀ s∈x.2.1,∀ y∈s.2.2,0≤y∧y<2*(A0 x:Int))
 (ha:BU (Aa x) 0 x.2.2.1=true):Al x=true:=by
 have hn:BB x=1+x.1+x.2.1.length+x.2.2.1.length:=by
  unfold BB;rw[if_pos ⟨AP.2 h1,h2,h3,h4⟩]
 have hN:(A0 x:Int)=1+x.1+x.2.1.length+x.2.2.1.length:=by unfold A0;omega
 have hF:(Aa x:Int)=1+x.1+x.2.1.length:=by unfold Aa;omega
 unfold Al;rw[hn];simp only[Bool.and_eq_true,decide_eq_true_eq];refine⟨⟨⟨by omega,Gy.2 hs⟩,Gy.2 fun y hy=>AP.2 ?_⟩,by rw[←hF];exact ha⟩
 · rcases CO.1 hy with hy|hy
   · have:=ho y hy;omega
   · obtain⟨l,hl,hy⟩:=List.mem_flatten.1 hy;obtain⟨s,hs',rfl⟩:=CF.1 hl;have:=hi s hs' y hy;omega
def KR (a b:Int):Int:=if b<a then b else a
def yA (k:Int) (p:Cc×List Ai):Cc×List Ai:=(Ag (Ag p.1 (KR (k - 1) 14)) k,p.2++[(k - 1 - Au p.1 (KR (k - 1) 14),Au (Ag p.1 (KR (k - 1) 14)) k)])
def VT (F:Nat) (c:Cc):Nat→Cc×List Ai
 | 0=>(c,[])
 | i+1=>yA (2*((F:Int)+i)) (VT F c i)
def YX (top:Int) (c:Cc):Cc×Cv :=
 (Ag (Ag (Ag (Ag (Ag c 32) top) top) top) top,(1,Au c 32,[Au (Ag c 32) top,Au (Ag (Ag c 32) top) top,Au (Ag (Ag (Ag c 32) top) top) top,Au (Ag (Ag (Ag (Ag c 32) top) top) top) top]))
def XG (top:Int) (c:Cc):Cc×Cv:=(Ag (Ag c 2) (KR top 12),(0,Au c 2,[top - 1 - Au (Ag c 2) (KR top 12)]))
def LX (top:Int) (c:Cc):Cc×Cv:=if G1 c 6=true then YX top (Ag c 6) else XG top (Ag c 6)
def N9 (top:Int) (c:Cc):Nat→Cc×List Cv
 | 0=>(c,[])
 | i+1=>((LX top (N9 top c i).1).1,(N9 top c i).2++[(LX top (N9 top c i).1).2])
def IB (top:Int) (c:Cc):Nat→Cc×List Int
 | 0=>(c,[])
 | i+1=>(Ag (IB top c i).1 (KR top 12),(IB top c i).2++[top - 1 - Au (IB top c i).1 (KR top 12)])
theorem KU {F:Nat} {c:Cc}:∀ i,(VT F c i).2.length=i
 | 0=>rfl
 | i+1=>by simp[VT,yA,KU i]
theorem Up {F:Nat} {c:Cc} (h:c.ok):∀ i,(VT F c i).1.ok
 | 0=>h
 | i+1=>Aw (Aw (Up h i))
theorem GV {a b:Int} (ha:0<a) (hb:0<b):0<KR a b∧KR a b≤a∧KR a b≤b:=by unfold KR;split<;>omega
theorem gJ {F:Nat} {c:Cc} (hF:1≤F):∀ (i k:Nat) (a:Ai),(VT F c i).2[k]? = some a→(0≤a.1∧a.1<2*((F:Int)+k))∧0≤a.2∧a.2<2*((F:Int)+k)
 | 0,_,_,h=>by simp[VT] at h
 | i+1,k,a,h=>by
   have hl:=KU (F:=F) (c:=c) i;simp only[VT,yA] at h;by_cases hk:k<i
   · rw[D4 (by omega)] at h;exact gJ hF i k a h
   · have hk':k=i:=by
      have:=(BZ.1 h).1;simp at this;omega
     subst hk';rw[ER (by omega),hl,Nat.sub_self] at h;simp only[List.getElem?_cons_zero,Option.some.injEq] at h;subst h;have m:=GV (a:=2*((F:Int)+k) - 1) (b:=14) (by omega) (by omega);have b1:=AU (VT F c k).1 m.1;have b2:=AU (Ag (VT F c k).1 (KR (2*((F:Int)+k) - 1) 14)) (n:=2*((F:Int)+k)) (by omega);simp only;omega
theorem oE {top:Int} {c:Cc} (h:c.ok):(LX top c).1.ok:=by
 unfold LX;split
 · exact Aw (Aw (Aw (Aw (Aw (Aw h)))))
 · exact Aw (Aw (Aw h))
theorem aK {top:Int} {c:Cc} (ht:0<top):Bx (LX top c).2=true∧∀ y∈(LX top c).2.2.2,0≤y∧y<top:=by
 unfold LX;split
 · have b0:=AU (Ag c 6) (n:=32) (by omega);have b1:=AU (Ag (Ag c 6) 32) ht;have b2:=AU (Ag (Ag (Ag c 6) 32) top) ht;have b3:=AU (Ag (Ag (Ag (Ag c 6) 32) top) top) ht;have b4:=AU (Ag (Ag (Ag (Ag (Ag c 6) 32) top) top) top) ht;refine⟨?_,fun y hy=>?_⟩
   · have hr:DX (Au (Ag c 6) 32) 0 31=true:=AP.2 (by omega);simp[Bx,YX,hr]
   · simp only[YX,List.mem_cons,List.not_mem_nil,or_false] at hy;rcases hy with rfl|rfl|rfl|rfl<;>assumption
 · have m:=GV ht (b:=12) (by omega);have b0:=AU (Ag c 6) (n:=2) (by omega);have b1:=AU (Ag (Ag c 6) 2) m.1;refine⟨?_,fun y hy=>?_⟩
   · have hr:DX (Au (Ag c 6) 2) 0 1=true:=AP.2 (by omega);simp[Bx,XG,hr]
   · simp only[XG,List.mem_cons,List.not_mem_nil,or_false] at hy;subst hy;omega
theorem Jy {top:Int} {c:Cc}:∀ i,(N9 top c i).2.length=i
 | 0=>rfl
 | i+1=>by simp[N9,Jy i]
theorem Na {top:Int} {c:Cc} (h:c.ok):∀ i,(N9 top c i).1.ok
 | 0=>h
 | i+1=>oE (Na h i)
theorem Wi {top:Int} {c:Cc} (ht:0<top):∀ i,∀ s∈(N9 top c i).2,Bx s=true∧∀ y∈s.2.2,0≤y∧y<top
 | 0,s,h=>by simp[N9] at h
 | i+1,s,h=>by
   rcases CO.1 h with h|h
   · exact Wi ht i s h
   · rw[HE.1 h];exact aK ht
theorem JC {top:Int} {c:Cc}:∀ i,(IB top c i).2.length=i
 | 0=>rfl
 | i+1=>by simp[IB,JC i]
theorem Ni {top:Int} {c:Cc} (h:c.ok):∀ i,(IB top c i).1.ok
 | 0=>h
 | i+1=>Aw (Ni h i)
theorem VS {top:Int} {c:Cc} (ht:0<top):∀ i,∀ y∈(IB top c i).2,0≤y∧y<top
 | 0,s,h=>by simp[IB] at h
 | i+1,s,h=>by
   rcases CO.1 h with h|h
   · exact VS ht i s h
   · rw[HE.1 h];have m:=GV ht (b:=12) (by omega);have b1:=AU (IB top c i).1 m.1;omega
def mC (x:AK):List Int×List Ai×Bool:=B5 x (Aa x) (-1) 0 (BE (Aa x)) [] x.2.2.1.length
def hsP (x:AK):AK:=(x.1,x.2.1.map (Dy (mC x).1),(mC x).2.1,x.2.2.2.map (Aq (mC x).1))
theorem XE {fa:Int} {an:List Ai} {a b:Int} (hf:0≤fa) (ha:0≤a) (hb:0≤b) (h:an.length<300):0≤AZ fa an a b:=by
 unfold AZ;split
 · exact (Tx (n:=a+b+1) (by omega) (by omega)).1
 · split
   · omega
   · first | omega|(rw[if_pos h];omega)
theorem Yr {x:AK} (hok:Al x=true):∀ i,i≤x.2.2.1.length→JV (Aa x) (Aa x+i) (B5 x (Aa x) (-1) 0 (BE (Aa x)) [] i):=fun i hi=>by
 obtain⟨⟨n1,n2,n3,n4,n5,n6⟩,-,-,-⟩:=AA hok;obtain⟨hF,hgl,hNi,hno⟩:=A9 hok;refine (M1 hok (by omega) (by omega) ?_ i hi).1;exact⟨fun _=>CV,by simp[CV],H8 (by simp),by simp,rfl⟩
theorem oW {x:AK} (hok:Al x=true) (h3:x.2.2.1.length<300):∀ i,i≤x.2.2.1.length→(B5 x (Aa x) (-1) 0 (BE (Aa x)) [] i).2.2=true∧(B5 x (Aa x) (-1) 0 (BE (Aa x)) [] i).2.1.length≤i
 | 0,_=>⟨rfl,Nat.le_refl _⟩
 | i+1,hi=>by
   obtain⟨h1,h2⟩:=oW hok h3 i (by omega);have I:=Yr hok i (by omega);obtain⟨⟨n1,n2,n3,n4,n5,n6⟩,-,-,-⟩:=AA hok;have hN:=Br x;obtain⟨-,a1,a2,a3,a4,a5,a6⟩:=C2 hok (v:=Aa x+i) (by omega) (by omega);unfold B5;generalize B5 x (Aa x) (-1) 0 (BE (Aa x)) [] i=s at *;obtain⟨to,an,b⟩:=s;simp only at h1 h2 I ⊢;have hpl:=I.pl;have han:=I.an;simp only at hpl han;have hF1:1≤Aa x:=by unfold Aa;omega
   have hA:=Bq (l:=(Aj x (Aa x+i)).1) (BK hpl (by omega) _) (by unfold Aa;omega);have hB:=Bq (l:=(Aj x (Aa x+i)).2) (BK hpl (by omega) _) (by unfold Aa;omega);have hv:=XE (fa:=Aa x) (an:=an) (by omega) hA.1 hB.1 (by omega);have hl:=A4 (an:=an) (a:=Aq to (Aj x (Aa x+i)).1) (b:=Aq to (Aj x (Aa x+i)).2);rw[if_neg (by rw[h1];simp),if_neg (by omega),if_neg (by omega)];exact⟨rfl,by simp only;omega⟩
theorem cT {pl:List Int} {s:Cv} (h:Bx s=true):Bx (Dy pl s)=true:=by
 unfold Bx Dy at *;simpa using h
theorem Kh {x:AK} (hok:Al x=true) {to:List Int} {an:List Ai} (h3:an.length≤300) (hp:JZ (Aa x+an.length) to) (ha:BU (Aa x) 0 an=true):Al ((x.1,x.2.1.map (Dy to),an,x.2.2.2.map (Aq to)):AK)=true:=by
 obtain⟨⟨n1,n2,n3,n4,n5,n6⟩,o1,o2,o3⟩:=AA hok;have hF1:1≤Aa x∧Aa x≤33:=by unfold Aa;omega
 have hm:∀ l,0≤Aq to l∧Aq to l<2*((Aa x:Int)+an.length):=fun l=>Bq (BK hp (by omega) _) (by omega);have hG:Aa ((x.1,x.2.1.map (Dy to),an,x.2.2.2.map (Aq to)):AK)=Aa x:=by unfold Aa;simp
 have hN:(A0 ((x.1,x.2.1.map (Dy to),an,x.2.2.2.map (Aq to)):AK):Int)=(Aa x:Int)+an.length:=by
  rw[Br,hG];simp
 refine Mn ⟨n1,n2⟩ (by simpa using n3) h3 (by simpa using n5) (fun s hs=>?_) (fun y hy=>?_) (fun s hs y hy=>?_) (by rw[hG];exact ha)
 · obtain⟨s0,hs0,rfl⟩:=CF.1 hs;exact cT (o1 s0 hs0)
 · obtain⟨y0,-,rfl⟩:=CF.1 hy;rw[hN];exact hm y0
 · obtain⟨s0,hs0,rfl⟩:=CF.1 hs;obtain⟨y0,-,rfl⟩:=CF.1 (show y∈s0.2.2.map (Aq to) from hy);rw[hN];exact hm y0
theorem qJ {x:AK} (hok:Al x=true):Al (hsP x)=true:=by
 have I:=Yr hok _ (Nat.le_refl _);exact Kh hok I.an I.pl I.ok
def I8 (y:AK) (keep:List Bool):Nat→List Ai×List Int
 | 0=>([],BE (Aa y))
 | i+1=>if AX keep (Aa y+i)=true then ((I8 y keep i).1++[(Aq (I8 y keep i).2 (Aj y (Aa y+i)).1,Aq (I8 y keep i).2 (Aj y (Aa y+i)).2)],(I8 y keep i).2++[2*((Aa y:Int)+(I8 y keep i).1.length)])
   else ((I8 y keep i).1,(I8 y keep i).2++[0])
def yO (y:AK) (keep:List Bool):AK:=(y.1,y.2.1.map (Dy (I8 y keep y.2.2.1.length).2),(I8 y keep y.2.2.1.length).1,y.2.2.2.map (Aq (I8 y keep y.2.2.1.length).2))
theorem UY {f:Int} {an:List Ai} {a:Ai} (h:BU f 0 an=true) (ha:DF (f+an.length) a=true):BU f 0 (an++[a])=true:=by
 have:=Gv (f:=f) (xs:=an++[a]) (k:=an.length) (x:=a) (by simp);rw[O3 (by simp),List.take_left' rfl,h,Bool.true_and] at this;rw[this,ha]
theorem Y8 {y:AK} {keep:List Bool} (hok:Al y=true):∀ i,i≤y.2.2.1.length→(I8 y keep i).1.length≤i∧(I8 y keep i).2.length=Aa y+i∧JZ (Aa y+(I8 y keep i).1.length) (I8 y keep i).2∧BU (Aa y) 0 (I8 y keep i).1=true
 | 0,_=>⟨Nat.le_refl _,CV,H8 (by simp[I8]),rfl⟩
 | i+1,hi=>by
   obtain⟨h1,h2,h3,h4⟩:=Y8 (keep:=keep) hok i (by omega);obtain⟨⟨n1,n2,n3,n4,n5,n6⟩,-,-,-⟩:=AA hok;have hF1:1≤Aa y∧Aa y≤33:=by unfold Aa;omega
   unfold I8;generalize I8 y keep i=s at *;obtain⟨an,to⟩:=s;simp only at h1 h2 h3 h4 ⊢;have hm:∀ l,0≤Aq to l∧Aq to l<2*((Aa y:Int)+an.length):=fun l=>Bq (BK h3 (by omega) _) (by omega);split
   · refine⟨by simp;omega,by simp;omega,?_,UY h4 ?_⟩
     · intro v hv;simp only[EM,List.length_cons,List.length_nil] at hv ⊢;rcases CO.1 hv with hv|hv
       · have:=h3 v hv;omega
       · simp only[HE] at hv;omega
     · unfold DF;have ma:=hm (Aj y (Aa y+i)).1;have mb:=hm (Aj y (Aa y+i)).2;rw[Bool.and_eq_true];exact⟨AP.2 (by omega),AP.2 (by omega)⟩
   · refine⟨by show an.length≤_;omega,by simp;omega,?_,h4⟩;intro v hv;rcases CO.1 hv with hv|hv
     · exact h3 v hv
     · simp only[HE] at hv;omega
theorem T1 {y:AK} {keep:List Bool} (hok:Al y=true):Al (yO y keep)=true:=by
 obtain⟨h1,h2,h3,h4⟩:=Y8 (keep:=keep) hok _ (Nat.le_refl _);obtain⟨⟨n1,n2,n3,n4,n5,n6⟩,-,-,-⟩:=AA hok;exact Kh hok (by omega) h3 h4
def DZ (y:AK):List Bool:=IC y (KW (List.replicate (A0 y) false) (Ay y) (Ay y).length)
def IE (y:AK):AK:=yO y (DZ y)
def CD (x:AK):AK:=IE (hsP x)
theorem J8 {x:AK} (hok:Al x=true):Al (CD x)=true:=T1 (qJ hok)
end Go.Proofs.YtnjedabjbeipeaaGreat
