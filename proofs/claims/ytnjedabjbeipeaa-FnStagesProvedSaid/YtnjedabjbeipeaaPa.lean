/-
  Nets as the draws make them. Plain lemmas.
  Conditions: those typed in each theorem.
-/
import Derived.Test.YtnjedabjbeipeaaUb
namespace Go.Proofs.Ytnjedabjbeipeaa
open Go.RowKit Go.ChangeShapes Go.WideShapes
set_option linter.unusedSimpArgs false
set_option linter.unusedVariables false
set_option maxRecDepth 100000
set_option maxHeartbeats 10000000
theorem OK {f:Int}:∀ {xs:List Ah} {k:Nat},(∀ (j:Nat) (a:Ah),xs[j]? = some a→(0≤a.1∧a.1<2*(f+(k+j:Nat)))∧0≤a.2∧a.2<2*(f+(k+j:Nat)))→BO f k xs=true
 | [],_,_=>rfl
 | a::xs,k,h=>by
   have h0:=h 0 a rfl;unfold BO;rw[Bool.and_eq_true];refine⟨?_,OK fun j b hb=>?_⟩
   · unfold Ej;rw[Bool.and_eq_true];exact⟨AN.2 (by omega),AN.2 (by omega)⟩
   · have:=h (j+1) b (by simpa using hb);omega
theorem VS {x:AB} (h1:0≤x.1∧x.1≤20) (h2:x.2.1.length≤12) (h3:x.2.2.1.length≤300) (h4:x.2.2.2.length≤16) (hs:∀ s∈x.2.1,Dn s=true) (ho:∀ y∈x.2.2.2,0≤y∧y<2*(AR x:Int)) (hi:∀ s∈x.2.1,∀ y∈s.2.2,0≤y∧y<2*(AR x:Int))
 (ha:BO (Aa x) 0 x.2.2.1=true):Aj x=true:=by
 have hn:CW x=1+x.1+x.2.1.length+x.2.2.1.length:=by
  unfold CW;rw[if_pos ⟨AN.2 h1,h2,h3,h4⟩]
 have hN:(AR x:Int)=1+x.1+x.2.1.length+x.2.2.1.length:=by unfold AR;omega
 have hF:(Aa x:Int)=1+x.1+x.2.1.length:=by unfold Aa;omega
 unfold Aj;rw[hn];simp only[Bool.and_eq_true,decide_eq_true_eq];refine⟨⟨⟨by omega,zz8.2 hs⟩,zz8.2 fun y hy=>AN.2 ?_⟩,by rw[←hF];exact ha⟩
 · rcases ACE.1 hy with hy|hy
   · have:=ho y hy;omega
   · obtain⟨l,hl,hy⟩:=List.mem_flatten.1 hy;obtain⟨s,hs',rfl⟩:=ACP.1 hl;have:=hi s hs' y hy;omega
def KB (a b:Int):Int:=if b<a then b else a
def zI (k:Int) (p:EE×List Ah):EE×List Ah:=(Ai (Ai p.1 (KB (k - 1) 14)) k,p.2++[(k - 1 - AP p.1 (KB (k - 1) 14),AP (Ai p.1 (KB (k - 1) 14)) k)])
def VQ (F:Nat) (c:EE):Nat→EE×List Ah
 | 0=>(c,[])
 | i+1=>zI (2*((F:Int)+i)) (VQ F c i)
def XZ (top:Int) (c:EE):EE×Dl :=
 (Ai (Ai (Ai (Ai (Ai c 32) top) top) top) top,(1,AP c 32,[AP (Ai c 32) top,AP (Ai (Ai c 32) top) top,AP (Ai (Ai (Ai c 32) top) top) top,AP (Ai (Ai (Ai (Ai c 32) top) top) top) top]))
def XM (top:Int) (c:EE):EE×Dl:=(Ai (Ai c 2) (KB top 12),(0,AP c 2,[top - 1 - AP (Ai c 2) (KB top 12)]))
def Lg (top:Int) (c:EE):EE×Dl:=if US c 6=true then XZ top (Ai c 6) else XM top (Ai c 6)
def NQ (top:Int) (c:EE):Nat→EE×List Dl
 | 0=>(c,[])
 | i+1=>((Lg top (NQ top c i).1).1,(NQ top c i).2++[(Lg top (NQ top c i).1).2])
def H7 (top:Int) (c:EE):Nat→EE×List Int
 | 0=>(c,[])
 | i+1=>(Ai (H7 top c i).1 (KB top 12),(H7 top c i).2++[top - 1 - AP (H7 top c i).1 (KB top 12)])
theorem Km {F:Nat} {c:EE}:∀ i,(VQ F c i).2.length=i
 | 0=>rfl
 | i+1=>by simp[VQ,zI,Km i]
theorem XU {F:Nat} {c:EE} (h:c.ok):∀ i,(VQ F c i).1.ok
 | 0=>h
 | i+1=>AD (AD (XU h i))
theorem Gd {a b:Int} (ha:0<a) (hb:0<b):0<KB a b∧KB a b≤a∧KB a b≤b:=by unfold KB;split<;>omega
theorem eW {F:Nat} {c:EE} (hF:1≤F):∀ (i k:Nat) (a:Ah),(VQ F c i).2[k]? = some a→(0≤a.1∧a.1<2*((F:Int)+k))∧0≤a.2∧a.2<2*((F:Int)+k)
 | 0,_,_,h=>by simp[VQ] at h
 | i+1,k,a,h=>by
   have hl:=Km (F:=F) (c:=c) i;simp only[VQ,zI] at h;by_cases hk:k<i
   · rw[zz4 (by omega)] at h;exact eW hF i k a h
   · have hk':k=i:=by
      have:=(zz1.1 h).1;simp at this;omega
     subst hk';rw[zz5 (by omega),hl,Nat.sub_self] at h;simp only[List.getElem?_cons_zero,Option.some.injEq] at h;subst h;have m:=Gd (a:=2*((F:Int)+k) - 1) (b:=14) (by omega) (by omega);have b1:=Bc (VQ F c k).1 m.1;have b2:=Bc (Ai (VQ F c k).1 (KB (2*((F:Int)+k) - 1) 14)) (n:=2*((F:Int)+k)) (by omega);simp only;omega
theorem kU {top:Int} {c:EE} (h:c.ok):(Lg top c).1.ok:=by
 unfold Lg;split
 · exact AD (AD (AD (AD (AD (AD h)))))
 · exact AD (AD (AD h))
theorem cD {top:Int} {c:EE} (ht:0<top):Dn (Lg top c).2=true∧∀ y∈(Lg top c).2.2.2,0≤y∧y<top:=by
 unfold Lg;split
 · have b0:=Bc (Ai c 6) (n:=32) (by omega);have b1:=Bc (Ai (Ai c 6) 32) ht;have b2:=Bc (Ai (Ai (Ai c 6) 32) top) ht;have b3:=Bc (Ai (Ai (Ai (Ai c 6) 32) top) top) ht;have b4:=Bc (Ai (Ai (Ai (Ai (Ai c 6) 32) top) top) top) ht;refine⟨?_,fun y hy=>?_⟩
   · have hr:rng (AP (Ai c 6) 32) 0 31=true:=AN.2 (by omega);simp[Dn,XZ,hr]
   · simp only[XZ,List.mem_cons,List.not_mem_nil,or_false] at hy;rcases hy with rfl|rfl|rfl|rfl<;>assumption
 · have m:=Gd ht (b:=12) (by omega);have b0:=Bc (Ai c 6) (n:=2) (by omega);have b1:=Bc (Ai (Ai c 6) 2) m.1;refine⟨?_,fun y hy=>?_⟩
   · have hr:rng (AP (Ai c 6) 2) 0 1=true:=AN.2 (by omega);simp[Dn,XM,hr]
   · simp only[XM,List.mem_cons,List.not_mem_nil,or_false] at hy;subst hy;omega
theorem HU {top:Int} {c:EE}:∀ i,(NQ top c i).2.length=i
 | 0=>rfl
 | i+1=>by simp[NQ,HU i]
theorem P7 {top:Int} {c:EE} (h:c.ok):∀ i,(NQ top c i).1.ok
 | 0=>h
 | i+1=>kU (P7 h i)
theorem UT {top:Int} {c:EE} (ht:0<top):∀ i,∀ s∈(NQ top c i).2,Dn s=true∧∀ y∈s.2.2,0≤y∧y<top
 | 0,s,h=>by simp[NQ] at h
 | i+1,s,h=>by
   rcases ACE.1 h with h|h
   · exact UT ht i s h
   · rw[zz9.1 h];exact cD ht
theorem I5 {top:Int} {c:EE}:∀ i,(H7 top c i).2.length=i
 | 0=>rfl
 | i+1=>by simp[H7,I5 i]
theorem Pn {top:Int} {c:EE} (h:c.ok):∀ i,(H7 top c i).1.ok
 | 0=>h
 | i+1=>AD (Pn h i)
theorem UQ {top:Int} {c:EE} (ht:0<top):∀ i,∀ y∈(H7 top c i).2,0≤y∧y<top
 | 0,s,h=>by simp[H7] at h
 | i+1,s,h=>by
   rcases ACE.1 h with h|h
   · exact UQ ht i s h
   · rw[zz9.1 h];have m:=Gd ht (b:=12) (by omega);have b1:=Bc (H7 top c i).1 m.1;omega
def wL (x:AB):List Int×List Ah×Bool:=C4 x (Aa x) (-1) 0 (BQ (Aa x)) [] x.2.2.1.length
def pD (x:AB):AB:=(x.1,x.2.1.map (Do (wL x).1),(wL x).2.1,x.2.2.2.map (Ap (wL x).1))
theorem F9 {fa:Int} {an:List Ah} {a b:Int} (hf:0≤fa) (ha:0≤a) (hb:0≤b) (h:an.length<300):0≤AG fa an a b:=by
 unfold AG;split
 · exact (RB (n:=a+b+1) (by omega) (by omega)).1
 · split
   · omega
   · first | omega|(rw[if_pos h];omega)
theorem W6 {x:AB} (hok:Aj x=true):∀ i,i≤x.2.2.1.length→NC (Aa x) (Aa x+i) (C4 x (Aa x) (-1) 0 (BQ (Aa x)) [] i):=fun i hi=>by
 obtain⟨⟨n1,n2,n3,n4,n5,n6⟩,-,-,-⟩:=Ax hok;obtain⟨hF,hgl,hNi,hno⟩:=Bz hok;refine (Th hok (by omega) (by omega) ?_ i hi).1;exact⟨fun _=>EO,by simp[EO],Kh (by simp),by simp,rfl⟩
theorem YO {x:AB} (hok:Aj x=true) (h3:x.2.2.1.length<300):∀ i,i≤x.2.2.1.length→(C4 x (Aa x) (-1) 0 (BQ (Aa x)) [] i).2.2=true∧(C4 x (Aa x) (-1) 0 (BQ (Aa x)) [] i).2.1.length≤i
 | 0,_=>⟨rfl,Nat.le_refl _⟩
 | i+1,hi=>by
   obtain⟨h1,h2⟩:=YO hok h3 i (by omega);have I:=W6 hok i (by omega);obtain⟨⟨n1,n2,n3,n4,n5,n6⟩,-,-,-⟩:=Ax hok;have hN:=Bn x;obtain⟨-,a1,a2,a3,a4,a5,a6⟩:=Cy hok (v:=Aa x+i) (by omega) (by omega);unfold C4;generalize C4 x (Aa x) (-1) 0 (BQ (Aa x)) [] i=s at *;obtain⟨to,an,b⟩:=s;simp only at h1 h2 I ⊢;have hpl:=I.pl;have han:=I.an;simp only at hpl han;have hF1:1≤Aa x:=by unfold Aa;omega
   have hA:=Bf (l:=(Al x (Aa x+i)).1) (Bw hpl (by omega) _) (by unfold Aa;omega);have hB:=Bf (l:=(Al x (Aa x+i)).2) (Bw hpl (by omega) _) (by unfold Aa;omega);have hv:=F9 (fa:=Aa x) (an:=an) (by omega) hA.1 hB.1 (by omega);have hl:=AM (an:=an) (a:=Ap to (Al x (Aa x+i)).1) (b:=Ap to (Al x (Aa x+i)).2);rw[if_neg (by rw[h1];simp),if_neg (by omega),if_neg (by omega)];exact⟨rfl,by simp only;omega⟩
theorem aO {pl:List Int} {s:Dl} (h:Dn s=true):Dn (Do pl s)=true:=by
 unfold Dn Do at *;simpa using h
theorem LK {x:AB} (hok:Aj x=true) {to:List Int} {an:List Ah} (h3:an.length≤300) (hp:Oh (Aa x+an.length) to) (ha:BO (Aa x) 0 an=true):Aj ((x.1,x.2.1.map (Do to),an,x.2.2.2.map (Ap to)):AB)=true:=by
 obtain⟨⟨n1,n2,n3,n4,n5,n6⟩,o1,o2,o3⟩:=Ax hok;have hF1:1≤Aa x∧Aa x≤33:=by unfold Aa;omega
 have hm:∀ l,0≤Ap to l∧Ap to l<2*((Aa x:Int)+an.length):=fun l=>Bf (Bw hp (by omega) _) (by omega);have hG:Aa ((x.1,x.2.1.map (Do to),an,x.2.2.2.map (Ap to)):AB)=Aa x:=by unfold Aa;simp
 have hN:(AR ((x.1,x.2.1.map (Do to),an,x.2.2.2.map (Ap to)):AB):Int)=(Aa x:Int)+an.length:=by
  rw[Bn,hG];simp
 refine VS ⟨n1,n2⟩ (by simpa using n3) h3 (by simpa using n5) (fun s hs=>?_) (fun y hy=>?_) (fun s hs y hy=>?_) (by rw[hG];exact ha)
 · obtain⟨s0,hs0,rfl⟩:=ACP.1 hs;exact aO (o1 s0 hs0)
 · obtain⟨y0,-,rfl⟩:=ACP.1 hy;rw[hN];exact hm y0
 · obtain⟨s0,hs0,rfl⟩:=ACP.1 hs;obtain⟨y0,-,rfl⟩:=ACP.1 (show y∈s0.2.2.map (Ap to) from hy);rw[hN];exact hm y0
theorem PJ {x:AB} (hok:Aj x=true):Aj (pD x)=true:=by
 have I:=W6 hok _ (Nat.le_refl _);exact LK hok I.an I.pl I.ok
def Ia (y:AB) (keep:List Bool):Nat→List Ah×List Int
 | 0=>([],BQ (Aa y))
 | i+1=>if Be keep (Aa y+i)=true then ((Ia y keep i).1++[(Ap (Ia y keep i).2 (Al y (Aa y+i)).1,Ap (Ia y keep i).2 (Al y (Aa y+i)).2)],(Ia y keep i).2++[2*((Aa y:Int)+(Ia y keep i).1.length)])
   else ((Ia y keep i).1,(Ia y keep i).2++[0])
def uZ (y:AB) (keep:List Bool):AB:=(y.1,y.2.1.map (Do (Ia y keep y.2.2.1.length).2),(Ia y keep y.2.2.1.length).1,y.2.2.2.map (Ap (Ia y keep y.2.2.1.length).2))
theorem T3 {f:Int} {an:List Ah} {a:Ah} (h:BO f 0 an=true) (ha:Ej (f+an.length) a=true):BO f 0 (an++[a])=true:=by
 have:=GY (f:=f) (xs:=an++[a]) (k:=an.length) (x:=a) (by simp);rw[ACe (by simp),List.take_left' rfl,h,Bool.true_and] at this;rw[this,ha]
theorem Lf {y:AB} {keep:List Bool} (hok:Aj y=true):∀ i,i≤y.2.2.1.length→(Ia y keep i).1.length≤i∧(Ia y keep i).2.length=Aa y+i∧Oh (Aa y+(Ia y keep i).1.length) (Ia y keep i).2∧BO (Aa y) 0 (Ia y keep i).1=true
 | 0,_=>⟨Nat.le_refl _,EO,Kh (by simp[Ia]),rfl⟩
 | i+1,hi=>by
   obtain⟨h1,h2,h3,h4⟩:=Lf (keep:=keep) hok i (by omega);obtain⟨⟨n1,n2,n3,n4,n5,n6⟩,-,-,-⟩:=Ax hok;have hF1:1≤Aa y∧Aa y≤33:=by unfold Aa;omega
   unfold Ia;generalize Ia y keep i=s at *;obtain⟨an,to⟩:=s;simp only at h1 h2 h3 h4 ⊢;have hm:∀ l,0≤Ap to l∧Ap to l<2*((Aa y:Int)+an.length):=fun l=>Bf (Bw h3 (by omega) _) (by omega);split
   · refine⟨by simp;omega,by simp;omega,?_,T3 h4 ?_⟩
     · intro v hv;simp only[ACg,List.length_cons,List.length_nil] at hv ⊢;rcases ACE.1 hv with hv|hv
       · have:=h3 v hv;omega
       · simp only[zz9] at hv;omega
     · unfold Ej;have ma:=hm (Al y (Aa y+i)).1;have mb:=hm (Al y (Aa y+i)).2;rw[Bool.and_eq_true];exact⟨AN.2 (by omega),AN.2 (by omega)⟩
   · refine⟨by show an.length≤_;omega,by simp;omega,?_,h4⟩;intro v hv;rcases ACE.1 hv with hv|hv
     · exact h3 v hv
     · simp only[zz9] at hv;omega
theorem SZ {y:AB} {keep:List Bool} (hok:Aj y=true):Aj (uZ y keep)=true:=by
 obtain⟨h1,h2,h3,h4⟩:=Lf (keep:=keep) hok _ (Nat.le_refl _);obtain⟨⟨n1,n2,n3,n4,n5,n6⟩,-,-,-⟩:=Ax hok;exact LK hok (by omega) h3 h4
end Go.Proofs.Ytnjedabjbeipeaa
