/-
  Nets as the draws make them. Plain lemmas.
  Conditions: those typed in each theorem.
-/
import Derived.Test.YtnjedabjbeipeaaGreatUf
import Derived.Test.YtnjedabjbeipeaaGreatLh
namespace Go.Proofs.YtnjedabjbeipeaaGreat
open Go.RowKit Go.ChangeShapes Go.WideShapes
set_option linter.unusedSimpArgs false
set_option linter.unusedVariables false
set_option maxRecDepth 100000
set_option maxHeartbeats 10000000
theorem Rc {f:Int}:∀ {xs:List Ai} {k:Nat},(∀ (j:Nat) (a:Ai),xs[j]? = some a→(0≤a.1∧a.1<2*(f+(k+j:Nat)))∧0≤a.2∧a.2<2*(f+(k+j:Nat)))→BU f k xs=true
 | [],_,_=>rfl
 | a::xs,k,h=>by
   have h0:=h 0 a rfl;unfold BU;rw[Bool.and_eq_true];refine⟨?_,Rc fun j b hb=>?_⟩
   · unfold DI;rw[Bool.and_eq_true];exact⟨AP.2 (by omega),AP.2 (by omega)⟩
   · have:=h (j+1) b (by simpa using hb);omega
theorem MV {x:AK} (h1:0≤x.1∧x.1≤20) (h2:x.2.1.length≤12) (h3:x.2.2.1.length≤300) (h4:x.2.2.2.length≤16) (hs:∀ s∈x.2.1,Bx s=true) (ho:∀ y∈x.2.2.2,0≤y∧y<2*(A0 x:Int)) (hi:∀ s∈x.2.1,∀ y∈s.2.2,0≤y∧y<2*(A0 x:Int))
 (ha:BU (Aa x) 0 x.2.2.1=true):Al x=true:=by
 have hn:Bz x=1+x.1+x.2.1.length+x.2.2.1.length:=by
  unfold Bz;rw[if_pos ⟨AP.2 h1,h2,h3,h4⟩]
 have hN:(A0 x:Int)=1+x.1+x.2.1.length+x.2.2.1.length:=by unfold A0;omega
 have hF:(Aa x:Int)=1+x.1+x.2.1.length:=by unfold Aa;omega
 unfold Al;rw[hn];simp only[Bool.and_eq_true,decide_eq_true_eq];refine⟨⟨⟨by omega,GA.2 hs⟩,GA.2 fun y hy=>AP.2 ?_⟩,by rw[←hF];exact ha⟩
 · rcases CO.1 hy with hy|hy
   · have:=ho y hy;omega
   · obtain⟨l,hl,hy⟩:=List.mem_flatten.1 hy;obtain⟨s,hs',rfl⟩:=CE.1 hl;have:=hi s hs' y hy;omega
def KV (a b:Int):Int:=if b<a then b else a
def yL (k:Int) (p:Cd×List Ai):Cd×List Ai:=(Ag (Ag p.1 (KV (k - 1) 14)) k,p.2++[(k - 1 - Au p.1 (KV (k - 1) 14),Au (Ag p.1 (KV (k - 1) 14)) k)])
def Vh (F:Nat) (c:Cd):Nat→Cd×List Ai
 | 0=>(c,[])
 | i+1=>yL (2*((F:Int)+i)) (Vh F c i)
def X1 (top:Int) (c:Cd):Cd×Cx :=
 (Ag (Ag (Ag (Ag (Ag c 32) top) top) top) top,(1,Au c 32,[Au (Ag c 32) top,Au (Ag (Ag c 32) top) top,Au (Ag (Ag (Ag c 32) top) top) top,Au (Ag (Ag (Ag (Ag c 32) top) top) top) top]))
def XV (top:Int) (c:Cd):Cd×Cx:=(Ag (Ag c 2) (KV top 12),(0,Au c 2,[top - 1 - Au (Ag c 2) (KV top 12)]))
def LM (top:Int) (c:Cd):Cd×Cx:=if Ha c 6=true then X1 top (Ag c 6) else XV top (Ag c 6)
def OJ (top:Int) (c:Cd):Nat→Cd×List Cx
 | 0=>(c,[])
 | i+1=>((LM top (OJ top c i).1).1,(OJ top c i).2++[(LM top (OJ top c i).1).2])
def ID (top:Int) (c:Cd):Nat→Cd×List Int
 | 0=>(c,[])
 | i+1=>(Ag (ID top c i).1 (KV top 12),(ID top c i).2++[top - 1 - Au (ID top c i).1 (KV top 12)])
theorem Lc {F:Nat} {c:Cd}:∀ i,(Vh F c i).2.length=i
 | 0=>rfl
 | i+1=>by simp[Vh,yL,Lc i]
theorem TS {F:Nat} {c:Cd} (h:c.ok):∀ i,(Vh F c i).1.ok
 | 0=>h
 | i+1=>Aw (Aw (TS h i))
theorem GX {a b:Int} (ha:0<a) (hb:0<b):0<KV a b∧KV a b≤a∧KV a b≤b:=by unfold KV;split<;>omega
theorem eV {F:Nat} {c:Cd} (hF:1≤F):∀ (i k:Nat) (a:Ai),(Vh F c i).2[k]? = some a→(0≤a.1∧a.1<2*((F:Int)+k))∧0≤a.2∧a.2<2*((F:Int)+k)
 | 0,_,_,h=>by simp[Vh] at h
 | i+1,k,a,h=>by
   have hl:=Lc (F:=F) (c:=c) i;simp only[Vh,yL] at h;by_cases hk:k<i
   · rw[DZ (by omega)] at h;exact eV hF i k a h
   · have hk':k=i:=by
      have:=(BZ.1 h).1;simp at this;omega
     subst hk';rw[ET (by omega),hl,Nat.sub_self] at h;simp only[List.getElem?_cons_zero,Option.some.injEq] at h;subst h;have m:=GX (a:=2*((F:Int)+k) - 1) (b:=14) (by omega) (by omega);have b1:=AV (Vh F c k).1 m.1;have b2:=AV (Ag (Vh F c k).1 (KV (2*((F:Int)+k) - 1) 14)) (n:=2*((F:Int)+k)) (by omega);simp only;omega
theorem nQ {top:Int} {c:Cd} (h:c.ok):(LM top c).1.ok:=by
 unfold LM;split
 · exact Aw (Aw (Aw (Aw (Aw (Aw h)))))
 · exact Aw (Aw (Aw h))
theorem Z6 {top:Int} {c:Cd} (ht:0<top):Bx (LM top c).2=true∧∀ y∈(LM top c).2.2.2,0≤y∧y<top:=by
 unfold LM;split
 · have b0:=AV (Ag c 6) (n:=32) (by omega);have b1:=AV (Ag (Ag c 6) 32) ht;have b2:=AV (Ag (Ag (Ag c 6) 32) top) ht;have b3:=AV (Ag (Ag (Ag (Ag c 6) 32) top) top) ht;have b4:=AV (Ag (Ag (Ag (Ag (Ag c 6) 32) top) top) top) ht;refine⟨?_,fun y hy=>?_⟩
   · have hr:DX (Au (Ag c 6) 32) 0 31=true:=AP.2 (by omega);simp[Bx,X1,hr]
   · simp only[X1,List.mem_cons,List.not_mem_nil,or_false] at hy;rcases hy with rfl|rfl|rfl|rfl<;>assumption
 · have m:=GX ht (b:=12) (by omega);have b0:=AV (Ag c 6) (n:=2) (by omega);have b1:=AV (Ag (Ag c 6) 2) m.1;refine⟨?_,fun y hy=>?_⟩
   · have hr:DX (Au (Ag c 6) 2) 0 1=true:=AP.2 (by omega);simp[Bx,XV,hr]
   · simp only[XV,List.mem_cons,List.not_mem_nil,or_false] at hy;subst hy;omega
theorem Jm {top:Int} {c:Cd}:∀ i,(OJ top c i).2.length=i
 | 0=>rfl
 | i+1=>by simp[OJ,Jm i]
theorem NW {top:Int} {c:Cd} (h:c.ok):∀ i,(OJ top c i).1.ok
 | 0=>h
 | i+1=>nQ (NW h i)
theorem Vg {top:Int} {c:Cd} (ht:0<top):∀ i,∀ s∈(OJ top c i).2,Bx s=true∧∀ y∈s.2.2,0≤y∧y<top
 | 0,s,h=>by simp[OJ] at h
 | i+1,s,h=>by
   rcases CO.1 h with h|h
   · exact Vg ht i s h
   · rw[Hz.1 h];exact Z6 ht
theorem Jj {top:Int} {c:Cd}:∀ i,(ID top c i).2.length=i
 | 0=>rfl
 | i+1=>by simp[ID,Jj i]
theorem NX {top:Int} {c:Cd} (h:c.ok):∀ i,(ID top c i).1.ok
 | 0=>h
 | i+1=>Aw (NX h i)
theorem WK {top:Int} {c:Cd} (ht:0<top):∀ i,∀ y∈(ID top c i).2,0≤y∧y<top
 | 0,s,h=>by simp[ID] at h
 | i+1,s,h=>by
   rcases CO.1 h with h|h
   · exact WK ht i s h
   · rw[Hz.1 h];have m:=GX ht (b:=12) (by omega);have b1:=AV (ID top c i).1 m.1;omega
def mB (x:AK):List Int×List Ai×Bool:=B5 x (Aa x) (-1) 0 (BD (Aa x)) [] x.2.2.1.length
def hsP (x:AK):AK:=(x.1,x.2.1.map (Dx (mB x).1),(mB x).2.1,x.2.2.2.map (Aq (mB x).1))
theorem YN {fa:Int} {an:List Ai} {a b:Int} (hf:0≤fa) (ha:0≤a) (hb:0≤b) (h:an.length<300):0≤AZ fa an a b:=by
 unfold AZ;split
 · exact (Sw (n:=a+b+1) (by omega) (by omega)).1
 · split
   · omega
   · first | omega|(rw[if_pos h];omega)
theorem Y6 {x:AK} (hok:Al x=true):∀ i,i≤x.2.2.1.length→JS (Aa x) (Aa x+i) (B5 x (Aa x) (-1) 0 (BD (Aa x)) [] i):=fun i hi=>by
 obtain⟨⟨n1,n2,n3,n4,n5,n6⟩,-,-,-⟩:=AA hok;obtain⟨hF,hgl,hNi,hno⟩:=A9 hok;refine (Mc hok (by omega) (by omega) ?_ i hi).1;exact⟨fun _=>CV,by simp[CV],H9 (by simp),by simp,rfl⟩
theorem pI {x:AK} (hok:Al x=true) (h3:x.2.2.1.length<300):∀ i,i≤x.2.2.1.length→(B5 x (Aa x) (-1) 0 (BD (Aa x)) [] i).2.2=true∧(B5 x (Aa x) (-1) 0 (BD (Aa x)) [] i).2.1.length≤i
 | 0,_=>⟨rfl,Nat.le_refl _⟩
 | i+1,hi=>by
   obtain⟨h1,h2⟩:=pI hok h3 i (by omega);have I:=Y6 hok i (by omega);obtain⟨⟨n1,n2,n3,n4,n5,n6⟩,-,-,-⟩:=AA hok;have hN:=Br x;obtain⟨-,a1,a2,a3,a4,a5,a6⟩:=C3 hok (v:=Aa x+i) (by omega) (by omega);unfold B5;generalize B5 x (Aa x) (-1) 0 (BD (Aa x)) [] i=s at *;obtain⟨to,an,b⟩:=s;simp only at h1 h2 I ⊢;have hpl:=I.pl;have han:=I.an;simp only at hpl han;have hF1:1≤Aa x:=by unfold Aa;omega
   have hA:=Bp (l:=(Aj x (Aa x+i)).1) (BK hpl (by omega) _) (by unfold Aa;omega);have hB:=Bp (l:=(Aj x (Aa x+i)).2) (BK hpl (by omega) _) (by unfold Aa;omega);have hv:=YN (fa:=Aa x) (an:=an) (by omega) hA.1 hB.1 (by omega);have hl:=A4 (an:=an) (a:=Aq to (Aj x (Aa x+i)).1) (b:=Aq to (Aj x (Aa x+i)).2);rw[if_neg (by rw[h1];simp),if_neg (by omega),if_neg (by omega)];exact⟨rfl,by simp only;omega⟩
theorem aW {pl:List Int} {s:Cx} (h:Bx s=true):Bx (Dx pl s)=true:=by
 unfold Bx Dx at *;simpa using h
theorem KN {x:AK} (hok:Al x=true) {to:List Int} {an:List Ai} (h3:an.length≤300) (hp:JY (Aa x+an.length) to) (ha:BU (Aa x) 0 an=true):Al ((x.1,x.2.1.map (Dx to),an,x.2.2.2.map (Aq to)):AK)=true:=by
 obtain⟨⟨n1,n2,n3,n4,n5,n6⟩,o1,o2,o3⟩:=AA hok;have hF1:1≤Aa x∧Aa x≤33:=by unfold Aa;omega
 have hm:∀ l,0≤Aq to l∧Aq to l<2*((Aa x:Int)+an.length):=fun l=>Bp (BK hp (by omega) _) (by omega);have hG:Aa ((x.1,x.2.1.map (Dx to),an,x.2.2.2.map (Aq to)):AK)=Aa x:=by unfold Aa;simp
 have hN:(A0 ((x.1,x.2.1.map (Dx to),an,x.2.2.2.map (Aq to)):AK):Int)=(Aa x:Int)+an.length:=by
  rw[Br,hG];simp
 refine MV ⟨n1,n2⟩ (by simpa using n3) h3 (by simpa using n5) (fun s hs=>?_) (fun y hy=>?_) (fun s hs y hy=>?_) (by rw[hG];exact ha)
 · obtain⟨s0,hs0,rfl⟩:=CE.1 hs;exact aW (o1 s0 hs0)
 · obtain⟨y0,-,rfl⟩:=CE.1 hy;rw[hN];exact hm y0
 · obtain⟨s0,hs0,rfl⟩:=CE.1 hs;obtain⟨y0,-,rfl⟩:=CE.1 (show y∈s0.2.2.map (Aq to) from hy);rw[hN];exact hm y0
theorem pZ {x:AK} (hok:Al x=true):Al (hsP x)=true:=by
 have I:=Y6 hok _ (Nat.le_refl _);exact KN hok I.an I.pl I.ok
def I8 (y:AK) (keep:List Bool):Nat→List Ai×List Int
 | 0=>([],BD (Aa y))
 | i+1=>if AX keep (Aa y+i)=true then ((I8 y keep i).1++[(Aq (I8 y keep i).2 (Aj y (Aa y+i)).1,Aq (I8 y keep i).2 (Aj y (Aa y+i)).2)],(I8 y keep i).2++[2*((Aa y:Int)+(I8 y keep i).1.length)])
   else ((I8 y keep i).1,(I8 y keep i).2++[0])
def AAD (y:AK) (keep:List Bool):AK:=(y.1,y.2.1.map (Dx (I8 y keep y.2.2.1.length).2),(I8 y keep y.2.2.1.length).1,y.2.2.2.map (Aq (I8 y keep y.2.2.1.length).2))
theorem TO {f:Int} {an:List Ai} {a:Ai} (h:BU f 0 an=true) (ha:DI (f+an.length) a=true):BU f 0 (an++[a])=true:=by
 have:=Gg (f:=f) (xs:=an++[a]) (k:=an.length) (x:=a) (by simp);rw[O6 (by simp),List.take_left' rfl,h,Bool.true_and] at this;rw[this,ha]
theorem XM {y:AK} {keep:List Bool} (hok:Al y=true):∀ i,i≤y.2.2.1.length→(I8 y keep i).1.length≤i∧(I8 y keep i).2.length=Aa y+i∧JY (Aa y+(I8 y keep i).1.length) (I8 y keep i).2∧BU (Aa y) 0 (I8 y keep i).1=true
 | 0,_=>⟨Nat.le_refl _,CV,H9 (by simp[I8]),rfl⟩
 | i+1,hi=>by
   obtain⟨h1,h2,h3,h4⟩:=XM (keep:=keep) hok i (by omega);obtain⟨⟨n1,n2,n3,n4,n5,n6⟩,-,-,-⟩:=AA hok;have hF1:1≤Aa y∧Aa y≤33:=by unfold Aa;omega
   unfold I8;generalize I8 y keep i=s at *;obtain⟨an,to⟩:=s;simp only at h1 h2 h3 h4 ⊢;have hm:∀ l,0≤Aq to l∧Aq to l<2*((Aa y:Int)+an.length):=fun l=>Bp (BK h3 (by omega) _) (by omega);split
   · refine⟨by simp;omega,by simp;omega,?_,TO h4 ?_⟩
     · intro v hv;simp only[EM,List.length_cons,List.length_nil] at hv ⊢;rcases CO.1 hv with hv|hv
       · have:=h3 v hv;omega
       · simp only[Hz] at hv;omega
     · unfold DI;have ma:=hm (Aj y (Aa y+i)).1;have mb:=hm (Aj y (Aa y+i)).2;rw[Bool.and_eq_true];exact⟨AP.2 (by omega),AP.2 (by omega)⟩
   · refine⟨by show an.length≤_;omega,by simp;omega,?_,h4⟩;intro v hv;rcases CO.1 hv with hv|hv
     · exact h3 v hv
     · simp only[Hz] at hv;omega
theorem Uq {y:AK} {keep:List Bool} (hok:Al y=true):Al (AAD y keep)=true:=by
 obtain⟨h1,h2,h3,h4⟩:=XM (keep:=keep) hok _ (Nat.le_refl _);obtain⟨⟨n1,n2,n3,n4,n5,n6⟩,-,-,-⟩:=AA hok;exact KN hok (by omega) h3 h4
def D5 (y:AK):List Bool:=IF y (KY (List.replicate (A0 y) false) (Ay y) (Ay y).length)
def IE (y:AK):AK:=AAD y (D5 y)
def CB (x:AK):AK:=IE (hsP x)
theorem Ke {x:AK} (hok:Al x=true):Al (CB x)=true:=Uq (pZ hok)
end Go.Proofs.YtnjedabjbeipeaaGreat
