/-
  The search for a satisfying assignment as data; its walk on both sides.
  Conditions: those typed in each theorem.
-/
import Derived.Test.YtnjedabjbeipeaaGreatQn
namespace Go.Proofs.YtnjedabjbeipeaaGreat
open Go.RowKit Go.ChangeShapes Go.WideShapes
set_option linter.unusedSimpArgs false
set_option linter.unusedVariables false
set_option maxRecDepth 100000
set_option maxHeartbeats 10000000
structure HL where
 code:Int
 left:Nat
 pf:List BT
 model:List Int
def Dd (dec:List Int):List Int:=dec.map fun l=>-l
def Am:List Int→Nat
 | []=>0
 | x::xs=>if x=0 then 0 else Am xs+1
def GO (S:Nat→List Int→List Int→List BT→HL) (left:Nat) (dec:List Int) (pf:List BT) (q:List Int):HL :=
 if Am q=q.length then ⟨1,left,pf,q⟩ else
 let r1:=S left (q.set (Am q) (-1)) (dec++[-((Am q:Int)+1)]) pf
 if r1.code≠2 then r1 else
 let r2:=S r1.left (q.set (Am q) 1) (dec++[(Am q:Int)+1]) r1.pf
 if r2.code≠2 then r2 else ⟨2,r2.left,r2.pf++[Dd dec],[]⟩
def CH (cls:List BT):Nat→Nat→List Int→List Int→List BT→HL
 | 0,left,p,dec,pf=>⟨3,left,pf,[]⟩
 | k+1,left,p,dec,pf=>if left=0 then ⟨3,left,pf,[]⟩ else
   match ET cls p with
   | none=>⟨2,left - 1,pf++[Dd dec],[]⟩
   | some q=>GO (CH cls k) (left - 1) dec pf q
theorem D3:∀ q:List Int,Am q≤q.length
 | []=>Nat.le_refl _
 | x::xs=>by
   have:=D3 xs;unfold Am;split
   · exact Nat.zero_le _
   · simp;omega
theorem FB {q:List Int} {k:Nat} {x:Int} (hx:q[k]? = some x):Am (q.drop k)=if x=0 then 0 else Am (q.drop (k+1))+1:=by
 obtain⟨hk,rfl⟩:=zz1.1 hx;rw[List.drop_eq_getElem_cons hk,Am]
theorem DJ {q:List Int} (h:Am q<q.length):q[Am q]? = some 0:=by
 induction q with
 | nil=>simp at h
 | cons x xs ih =>
   by_cases hx:x=0
   · simp[Am,hx]
   · simp only[Am,if_neg hx,List.length_cons] at h ⊢;simpa using ih (by omega)
theorem Ft {cls:List BT} {v:Nat} (hc:CA v cls):∀ (k left:Nat) (p dec:List Int) (pf:List BT),p.length=v→Dj p →
 (CH cls k left p dec pf).left≤left∧((CH cls k left p dec pf).code=1∨(CH cls k left p dec pf).code=2∨(CH cls k left p dec pf).code=3) ∧
 ((CH cls k left p dec pf).code=2→(CH cls k left p dec pf).pf.length+(CH cls k left p dec pf).left≤pf.length+left∧0<(CH cls k left p dec pf).pf.length∧((∀ c∈pf,c.length≤1048576)→dec.length+k≤1048576→∀ c∈(CH cls k left p dec pf).pf,c.length≤1048576)) ∧
 ((CH cls k left p dec pf).code=1→(CH cls k left p dec pf).model.length=v∧Dj (CH cls k left p dec pf).model)
 | 0,left,p,dec,pf,hp,ht=>by simp[CH]
 | k+1,left,p,dec,pf,hp,ht=>by
   have ih:=Ft hc k;unfold CH;by_cases h0:left=0
   · simp[h0]
   rw[if_neg h0]
   cases hq:ET cls p with
   | none =>
     simp only;refine⟨by omega,by simp,fun _=>⟨by simp;omega,by simp,fun h1 h2 c hcm=>?_⟩,by simp⟩;rcases ACB.1 hcm with h|h
     · exact h1 c h
     · rw[zz9.1 h];simp[Dd];omega
   | some q =>
     obtain⟨f1,f2,f3⟩:=C2 (by rw[hp];exact hc) ht hq;simp only;unfold GO;by_cases hz:Am q=q.length
     · rw[if_pos hz];simp only;exact⟨by omega,by simp,by simp,fun _=>⟨by omega,f2⟩⟩
     rw[if_neg hz];have a1:=ih (left - 1) (q.set (Am q) (-1)) (dec++[-((Am q:Int)+1)]) pf (by simp;omega) (DG f2 _ (by omega));generalize CH cls k (left - 1) (q.set (Am q) (-1)) (dec++[-((Am q:Int)+1)]) pf=r1 at *;obtain⟨a,b,c,d⟩:=a1;by_cases h1:r1.code≠2
     · rw[if_pos h1];exact⟨by omega,b,fun h=>absurd h h1,d⟩
     rw[if_neg h1];obtain⟨c1,c2,c3⟩:=c (by simpa using h1);have a2:=ih r1.left (q.set (Am q) 1) (dec++[(Am q:Int)+1]) r1.pf (by simp;omega) (DG f2 _ (by omega));generalize CH cls k r1.left (q.set (Am q) 1) (dec++[(Am q:Int)+1]) r1.pf=r2 at *;obtain⟨a',b',c',d'⟩:=a2;by_cases h2:r2.code≠2
     · rw[if_pos h2];exact⟨by omega,b',fun h=>absurd h h2,d'⟩
     rw[if_neg h2];obtain⟨e1,e2,e3⟩:=c' (by simpa using h2);simp only;refine⟨by omega,by simp,fun _=>⟨?_,by simp,fun g1 g2 c hcm=>?_⟩,by simp⟩
     · simp only[AB0,List.length_singleton];omega
     · rcases ACB.1 hcm with h|h
       · exact e3 (c3 g1 (by simp;omega)) (by simp;omega) c h
       · rw[zz9.1 h];simp[Dd];omega
theorem DF (xs:List Int) (h:xs.length≤1048576) (hb:∀ x∈xs,-1048576≤x∧x≤1048576):Bx Tryz.prog 92 [ints xs] (ints (Dd xs)):=by
 refine A5 (by kernel_rfl) Tryz.func92 rfl rfl rfl ?_;simp;refine AH [false,false,false,true,false,false,true,true,true] (fun k:Nat=>k≤xs.length) (fun k:Nat=>[(3,C7 k 0),(8,.d (.int .i64 k))]) (fun k:Nat=>C8 k (Dd (xs.take k))) (fun k:Nat=>xs.length - k) 0 ?_ ?_ ?_
 · simp
 · exact⟨[],by simp[C7,C8]⟩
 rintro I S μ hI hS hμ k hk;by_cases hlt:k<xs.length
 · have hx1:xs[k]? = some xs[k]:=zz0 hlt;have w2:IntKind.i64.wrap ((k:Int)+1)=(k:Int)+1:=Ad (by omega) (by omega);have hd:decide (k<xs.length)=true:=zz2 hlt;have hx:=hb _ (ABt hlt);have hn:Dd (xs.take (k+1))=Dd (xs.take k)++[-xs[k]]:=by unfold Dd;rw[Ba hx1,ABe];rfl
   have hl:(Dd (xs.take k)).length=k:=by unfold Dd;simp;omega
   generalize xs[k]=x at *;have w3:IntKind.i64.wrap (-x)=-x:=Ad (by omega) (by omega);generalize Dd (xs.take k)=ms at *;by_cases hk0:k=0
   · subst hk0;have hm:ms=[]:=zz7 hl;subst hm;simp[C7,C8,hd,hx1,w3];refine Ak As rfl (by simp) rfl (by simp) (by simp) (by first | (simp;done)|(simp;omega)) (by simp[AR,AL]) ?_;simp[w2,show IntKind.i64.wrap 1=1 from rfl];exact Ae hI hS hμ 1 (by omega) (by omega) ⟨[1],by simp[C7,C8,hn,e1,AC]⟩
   · simp[C7,C8,hd,hx1,hk0,w3];refine Ak As rfl (by simp) rfl (by simp) (by simp) (by first | (simp;done)|(simp;omega)) (by simp[AR,AL]) ?_;simp[w2];exact Ae hI hS hμ (k+1) (by omega) (by omega) ⟨[2],by simp[C7,C8,hn,e1,AC]⟩
 · have hk':k=xs.length:=by omega
   subst hk';have hd:decide (xs.length<xs.length)=false:=by simp
   rw[List.take_length];have hl:(Dd xs).length=xs.length:=by unfold Dd;simp
   generalize Dd xs=ms at *;by_cases hk0:xs.length=0
   · have hm:ms=[]:=zz7 (by omega);subst hm;simp[C7,C8,hd,hk0,hlt]
   · simp[C7,C8,hd,hlt,hk0]
theorem DP {S:Nat→List Int→List Int→List BT→HL} {left:Nat} {dec:List Int} {pf:List BT} {q:List Int} {R:HL} (h:GO S left dec pf q=R) (hz:Am q=q.length):R=⟨1,left,pf,q⟩:=by
 unfold GO at h;rw[if_pos hz] at h;exact h.symm
theorem Nr {S:Nat→List Int→List Int→List BT→HL} {left:Nat} {dec:List Int} {pf:List BT} {q:List Int} {R:HL} (h:GO S left dec pf q=R) (hz:¬ Am q=q.length) :
 ((S left (q.set (Am q) (-1)) (dec++[-((Am q:Int)+1)]) pf).code≠2→R=S left (q.set (Am q) (-1)) (dec++[-((Am q:Int)+1)]) pf) ∧
 ((S left (q.set (Am q) (-1)) (dec++[-((Am q:Int)+1)]) pf).code=2→∀ r2,S (S left (q.set (Am q) (-1)) (dec++[-((Am q:Int)+1)]) pf).left (q.set (Am q) 1) (dec++[(Am q:Int)+1]) (S left (q.set (Am q) (-1)) (dec++[-((Am q:Int)+1)]) pf).pf=r2→(r2.code≠2→R=r2)∧(r2.code=2→R=⟨2,r2.left,r2.pf++[Dd dec],[]⟩)):=by
 unfold GO at h;rw[if_neg hz] at h;constructor
 · intro h1;simp only[if_pos h1] at h;exact h.symm
 · rintro h1 r2 rfl;simp only[h1,ne_eq,not_true_eq_false,if_false] at h;constructor
   · intro h2;rw[if_pos h2] at h;exact h.symm
   · intro h2;rw[if_neg (by simp[h2])] at h;exact h.symm
def N9 (v:Nat) (par dec own:List Int):Prop:=(dec=[]∧own=par)∨∃ d0 l,dec=d0++[l]∧Ep v l∧own=Dg par l
abbrev G8 (v:Nat) (cls:List BT) (B:Int) (u p f:V):Ah:=.var 91 [.d (.int .i64 v),.d (Dh 26 Az cls),.d (.int .i64 B),u,p,f]
def Cf (v:Nat) (cls:List BT) (B:Int) (left:Nat) (pf:List BT):List Ah :=
 if pf=[] then [G8 v cls B (.d (.int .i64 (B - left))) (.nil 26) .any] else [G8 v cls B (.d (.int .i64 (B - left))) (.ref 1) .any,.arr 26 true (pf.map Az)]
def D7 (v:Nat) (cls:List BT) (B:Int) (pf:List BT) (r:HL):List Ah :=
 if pf=[] then [G8 v cls B (.d (.int .i64 (B - r.left))) (.ref 1) .any,.arr 26 true (r.pf.map Az)] else [G8 v cls B (.d (.int .i64 (B - r.left))) (.ref 2) .any,.dead,.arr 26 true (r.pf.map Az)]
def BJ (v:Nat) (cls:List BT) (B:Int) (pf:List BT) (r:HL):List Ah :=
 if pf=[] then [G8 v cls B .any .any (if r.code=1 then .d (Dh 3 (e1 AC) r.model) else .any)] else [G8 v cls B .any .any (if r.code=1 then .d (Dh 3 (e1 AC) r.model) else .any),.dead]
def AO (v:Nat) (cls:List BT) (B:Int) (pf:List BT) (r:HL):List Ah:=if r.code=2 then D7 v cls B pf r else BJ v cls B pf r
theorem P4 {v:Nat} {cls:List BT} {B:Int} {left:Nat} {pf:List BT} {r:HL}:Bi (Cf v cls B left pf) (AO v cls B pf r):=by
 unfold Cf AO D7 BJ;by_cases h:pf=[]<;>by_cases h2:r.code=2<;>simp[h,h2,Bi,Later]
theorem So {v:Nat} {cls:List BT} {B:Int} {left:Nat} {pf:List BT}:BN (Cf v cls B left pf):=by
 unfold Cf;by_cases h:pf=[]<;>simp[h,BN,Ah.live]
def Ew (v:Nat) (cls:List BT) (B:Int) (left:Nat) (par dec:List Int) (pf:List BT) (r:HL):Prop :=
 CG Tryz.prog 61 [.ptr 0 0,.d (Dh 3 (e1 AC) dec),.d (Dh 3 (e1 AC) par)] (Cf v cls B left pf) (.d (.int .i64 r.code)) (AO v cls B pf r)
theorem GJ {T:Nat→List Int→List Int→List BT→HL→Prop} {S:Nat→List Int→List Int→List BT→HL} {v:Nat} {B:Int} {k left:Nat} {dec q:List Int} {pf:List BT} {R:HL} (hv:v≤400)
 (ih:∀ (left:Nat) (par dec own:List Int) (pf:List BT),left≤k→(left:Int)≤B→par.length=v→Dj par→N9 v par dec own→(∀ x∈dec,Ep v x)→dec.length+k≤1048576→pf.length+left≤600→(∀ c∈pf,c.length≤1048576)→T left par dec pf (S left own dec pf))
 (hF:∀ (left:Nat) (p dec:List Int) (pf:List BT),p.length=v→Dj p→(S left p dec pf).left≤left∧((S left p dec pf).code=1∨(S left p dec pf).code=2∨(S left p dec pf).code=3) ∧
   ((S left p dec pf).code=2→(S left p dec pf).pf.length+(S left p dec pf).left≤pf.length+left∧0<(S left p dec pf).pf.length∧((∀ c∈pf,c.length≤1048576)→dec.length+k≤1048576→∀ c∈(S left p dec pf).pf,c.length≤1048576)) ∧
   ((S left p dec pf).code=1→(S left p dec pf).model.length=v∧Dj (S left p dec pf).model))
 (hR:GO S left dec pf q=R) (hz:¬ Am q=q.length) (hql:q.length=v) (hqt:Dj q) (h1:left≤k) (h2:(left:Int)≤B) (hdl:∀ x∈dec,Ep v x) (hdk:dec.length+(k+1)≤1048576) (hpl:pf.length+left≤600) (hpc:∀ c∈pf,c.length≤1048576) :
 ∃ r1 r2:HL,T left q (dec++[-((Am q:Int)+1)]) pf r1∧(r1.code=2→T r1.left q (dec++[(Am q:Int)+1]) r1.pf r2)∧(r1.code≠2→R=r1)∧(r1.code=2→r2.code≠2→R=r2)∧(r1.code=2→r2.code=2→R=⟨2,r2.left,r2.pf++[Dd dec],[]⟩) ∧
   (r1.code=2→¬ r1.pf=[])∧(r1.code=2→r2.code=2→¬ r2.pf=[]∧r2.pf.length≤600):=by
 have hz2:=D3 q;obtain⟨a,b⟩:=Nr hR hz;have hF1:=hF left (q.set (Am q) (-1)) (dec++[-((Am q:Int)+1)]) pf (by simp;omega) (DG hqt _ (by omega))
 have hC1:=ih left q (dec++[-((Am q:Int)+1)]) (q.set (Am q) (-1)) pf h1 h2 hql hqt (.inr ⟨dec,_,rfl,⟨by omega,by omega,by omega⟩,(Ef q _).symm⟩) (fun x hx=>by
  rcases ACB.1 hx with h|h
  · exact hdl x h
  · rw[zz9.1 h];exact⟨by omega,by omega,by omega⟩) (by simp;omega) hpl hpc
 generalize S left (q.set (Am q) (-1)) (dec++[-((Am q:Int)+1)]) pf=r1 at *;obtain⟨f1,f2,f3,f4⟩:=hF1;have hF2:=hF r1.left (q.set (Am q) 1) (dec++[(Am q:Int)+1]) r1.pf (by simp;omega) (DG hqt _ (by omega))
 have hC2:r1.code=2→_:=fun hc=>ih r1.left q (dec++[(Am q:Int)+1]) (q.set (Am q) 1) r1.pf (by omega) (by omega) hql hqt (.inr ⟨dec,_,rfl,⟨by omega,by omega,by omega⟩,(Ee q _).symm⟩) (fun x hx=>by
  rcases ACB.1 hx with h|h
  · exact hdl x h
  · rw[zz9.1 h];exact⟨by omega,by omega,by omega⟩) (by simp;omega) (by have:=(f3 hc).1;omega) ((f3 hc).2.2 hpc (by simp;omega))
 have b2:=fun h=>b h _ rfl;clear b;generalize S r1.left (q.set (Am q) 1) (dec++[(Am q:Int)+1]) r1.pf=r2 at *;obtain⟨g1,g2,g3,g4⟩:=hF2;refine⟨r1,r2,hC1,hC2,a,fun h=>(b2 h).1,fun h=>(b2 h).2,fun h h'=>?_,fun h h'=>⟨fun e=>?_,?_⟩⟩
 · have:=(f3 h).2.1;rw[h'] at this;simp at this
 · have:=(g3 h').2.1;rw[e] at this;simp at this
 · have:=(g3 h').1;have:=(f3 h).1;omega
theorem WS (v:Nat) (cls:List BT) (B:Int) (hv:v≤400) (hB:B≤600) (hc:Wp 1048576 cls) (hcl:CA v cls):∀ (k left:Nat) (par dec own:List Int) (pf:List BT),left≤k→(left:Int)≤B→par.length=v→Dj par→N9 v par dec own→(∀ x∈dec,Ep v x)→dec.length+k≤1048576→pf.length+left≤600→(∀ c∈pf,c.length≤1048576) →
 Ew v cls B left par dec pf (CH cls k left own dec pf):=by
 intro k
 induction k with
 | zero =>
   intro left par dec own pf h1 h2 hp ht hd hdl hdk hpl hpc;obtain rfl:left=0:=by omega
   refine BA (by kernel_rfl) Tryz.func61 rfl rfl rfl P4 So ?_;by_cases hpf:pf=[]
   · simp[Cf,AO,BJ,CH,hpf];refine AJ 9 (by kernel_rfl) ?_;simp;exact⟨[0],by simp⟩
   · simp[Cf,AO,BJ,CH,hpf];refine AJ 9 (by kernel_rfl) ?_;simp;exact⟨[0,1],by simp⟩
 | succ k ih =>
   intro left par dec own pf h1 h2 hp ht hd hdl hdk hpl hpc;have hR:CH cls (k+1) left own dec pf=CH cls (k+1) left own dec pf:=rfl
   conv at hR=>lhs;unfold CH
   have hF:=Ft hcl k;generalize CH cls (k+1) left own dec pf=R at *;generalize CH cls k=S at *;have hdb:∀ x∈dec,-1048576≤x∧x≤1048576:=fun x hx=>by have:=hdl x hx;unfold Ep at this;omega
   refine BA (by kernel_rfl) Tryz.func61 rfl rfl rfl P4 So ?_;by_cases hpf:pf=[]
   · simp[Cf,hpf];refine AJ 9 (by kernel_rfl) ?_;simp;by_cases h0:left=0
     · rw[if_pos h0] at hR;subst hR h0;simp[AO,BJ,hpf];exact⟨[0],by simp⟩
     rw[if_neg h0] at hR;have wv:IntKind.i64.wrap (B - (left:Int)+1)=B - ((left - 1:Nat):Int):=by rw[Ad (by omega) (by omega)];omega
     simp[show ¬ B≤B - (left:Int) by omega,show B - (left:Int)<B by omega,show (0:Int)<left by omega,h0,wv];refine Ab (Cw par (by omega)) ?_;simp;rcases hd with ⟨hd0,rfl⟩|⟨d0,l,hdec,hl,rfl⟩
     · have hdz:dec.length=0:=by rw[hd0];rfl
       clear hd0;have hol:=hp;have hot:=ht;simp[hdz];intro _;have hP:=Hg cls own _ rfl hc (by omega) hot (by rw[hol];exact hcl);have hPf:=fun q=>C2 (cls:=cls) (p:=own) (p':=q) (by rw[hol];exact hcl) hot;generalize ET cls own=Rq at *;refine Ab (hP) ?_;simp
       cases Rq with
       | none =>
         simp only at hR;subst hR;simp;refine Av [(8,[0]),(9,[]),(10,[]),(11,[])] (by kernel_rfl) ?_;simp;refine Ab (DF dec (by omega) hdb) ?_;simp
         first | refine Bs (q:=1) AM (by exact rfl) (by simp) (by exact rfl) (by exact rfl) (by simp) (by simp) (by first | (simp;done)|(simp;omega)) ?_|refine Br AM (by exact rfl) (by simp) (by exact rfl) (by simp) (by first | (simp;done)|(simp;omega)) ?_
         simp;exact⟨[0,5],by simp[AO,D7,hpf,Az,e1]⟩
       | some q =>
         obtain⟨hql,hqt,-⟩:=hPf q rfl;rw[hol] at hql;have hzl:=D3 q;have hz0:=DJ (q:=q)
         replace hR:GO S (left - 1) dec pf q=R:=hR
         simp;refine AB [true,true,false,false,false,false,false,false,false,true,false,true] (fun i:Nat=>i≤q.length∧Am (q.drop i)+i=Am q) (fun i:Nat=>[(11,.d (.int .i64 i))]) (fun i:Nat=>[]) (fun i:Nat=>q.length - i) 0 ?_ ?_ ?_
         · exact⟨by omega,by simp⟩
         · exact⟨[0,1,2],by simp⟩
         rintro I Z μ hI hS hμ i ⟨hi,hzi⟩;by_cases hend:i=Am q
         case neg =>
          have hlt:i<q.length:=by
           rcases Nat.lt_or_ge i q.length with h|h
           · exact h
           · rw[List.drop_eq_nil_of_le h,Am] at hzi;omega
          have hx1:q[i]? = some q[i]:=zz0 hlt;rw[FB hx1] at hzi;generalize q[i]=y at *;by_cases hy:y=0
          · rw[if_pos hy] at hzi;omega
          rw[if_neg hy] at hzi;have w5:IntKind.i64.wrap ((i:Int)+1)=(i:Int)+1:=Ad (by omega) (by omega);simp[zz2 hlt,hx1,hy,show (y != 0)=true by simpa using hy,w5];exact Ae hI hS hμ (i+1) ⟨by omega,by omega⟩ (by omega) ⟨[0,1,2],by simp⟩
         subst hend;clear hzi;by_cases hfull:Am q=q.length
         · have hRf:=DP hR hfull;clear hR;subst hRf;have hlt:¬ Am q<q.length:=by omega
           simp[hlt,zz3 hlt,hfull];exact⟨[0],by simp[AO,BJ,hpf]⟩
         obtain⟨r1,r2,hC1,hC2,hR1,hR2,hR3,hp1,hp2⟩:=GJ hv ih hF hR hfull hql hqt (by omega) (by omega) hdl hdk (by omega) hpc;clear hR ih hF;have hlt:Am q<q.length:=by omega
         have hx0:=hz0 hlt;clear hz0;generalize Am q=z at *;have wz:IntKind.i64.wrap ((z:Int)+1)=(z:Int)+1:=Ad (by omega) (by omega);have wn:IntKind.i64.wrap (-((z:Int)+1))=-((z:Int)+1):=Ad (by omega) (by omega);have hzn:¬ z=q.length:=hfull;have hzf:((z:Int)==(q.length:Int))=false:=beq_false_of_ne (fun h=>hzn (Int.ofNat.inj h));have hzg:(z==q.length)=false:=beq_false_of_ne hzn;simp[zz2 hlt,hx0,wz,wn,hzn,hzf,hzg];refine AH [true,true,false,false,false,false,false,false,false,true,false,false,false,false,false,false,false,false,false,false,false,false,false,false,false,false,false,false,false,false,false,false,false,false,false,false,false,false,false,false,false,false,false,false,false,false,false,false,false,false,false,false,false,false,false,false,false,false,false,false,false,false,false,false,false,false,false,false,false,false,false,false,false,false,false,false,false,false,false,false,false,false,false,false,false,false,false,false,false,false,true,true,true] (fun i:Nat=>i=0∨(i=1∧r1.code=2)∨(i=2∧r1.code=2∧r2.code=2)) (fun i:Nat=>[(9,.d (.sl 3 (q.map (e1 AC)))),(90,.ref 1),(91,.d (.int .i64 2)),(92,.d (.int .i64 i))]) (fun i:Nat=>fun _=>if i=0 then [G8 v cls B (.d (.int .i64 (B - (left - 1:Nat)))) (.nil 26) .any,.arr 3 true [[.int .i64 (-((z:Int)+1))],[.int .i64 ((z:Int)+1)]]] else if i=1 then [G8 v cls B (.d (.int .i64 (B - (r1.left:Nat)))) (.ref 2) .any,.arr 3 true [[.int .i64 (-((z:Int)+1))],[.int .i64 ((z:Int)+1)]],.arr 26 true (r1.pf.map Az)] else [G8 v cls B (.d (.int .i64 (B - (r2.left:Nat)))) (.ref 2) .any,.arr 3 true [[.int .i64 (-((z:Int)+1))],[.int .i64 ((z:Int)+1)]],.arr 26 true (r2.pf.map Az)]) (fun i:Nat=>2 - i) 0 ?_ ?_ ?_
         · simp
         · exact⟨[0,3],by simp⟩
         rintro I2 Z2 μ2 hI2 hS2 hμ2 i (rfl|⟨rfl,hc1⟩|⟨rfl,hc1,hc2⟩)
         · simp;refine Ab (Cw dec (by omega)) ?_;simp;refine Ak As rfl (by simp) rfl (by simp) (by simp) (by first | (simp;done)|(simp;omega)) (by simp[AR,AL]) ?_;simp;have hcc:=hC1;by_cases hk2:r1.code=2
           · simp only[Ew,Cf,AO,D7,hpf,hk2,if_true,if_false] at hcc;refine Ac (hcc) [4] [0] (by simp) ?_;simp[hk2,show IntKind.i64.wrap 1=1 from rfl,show IntKind.i64.wrap 2=2 from rfl];exact Ae hI2 hS2 hμ2 1 (.inr (.inl ⟨rfl,hk2⟩)) (by simp) ⟨[0,1,5],by simp⟩
           · have hRe:=hR1 hk2;subst hRe;have hk3:(R.code != 2)=true:=by simpa using hk2
             by_cases hk1:R.code=1
             · simp only[Ew,Cf,AO,BJ,hpf,hk2,hk1,if_true,if_false] at hcc;simp only[show ((1:Int)=2)=False by simp,if_false] at hcc;refine Ac (hcc) [4] [0] (by simp) ?_;simp[hk2,hk3,hk1];exact⟨[0],by simp[AO,BJ,hpf,hk2,hk1]⟩
             · simp only[Ew,Cf,AO,BJ,hpf,hk2,hk1,if_true,if_false] at hcc;refine Ac (hcc) [4] [0] (by simp) ?_;simp[hk2,hk3,hk1];exact⟨[0],by simp[AO,BJ,hpf,hk2,hk1]⟩
         · have hpn:=hp1 hc1;simp;refine Ab (Cw dec (by omega)) ?_;simp;refine Ak As rfl (by simp) rfl (by simp) (by simp) (by first | (simp;done)|(simp;omega)) (by simp[AR,AL]) ?_;simp;have hcc:=hC2 hc1;by_cases hk2:r2.code=2
           · simp only[Ew,Cf,AO,D7,hpn,hk2,if_true,if_false] at hcc;refine Ac (hcc) [5] [0,2] (by simp) ?_;simp[hk2,show IntKind.i64.wrap 1=1 from rfl,show IntKind.i64.wrap 2=2 from rfl];exact Ae hI2 hS2 hμ2 2 (.inr (.inr ⟨rfl,hc1,hk2⟩)) (by simp) ⟨[0,1,6],by simp⟩
           · have hRe:=hR2 hc1 hk2;subst hRe;have hk3:(R.code != 2)=true:=by simpa using hk2
             by_cases hk1:R.code=1
             · simp only[Ew,Cf,AO,BJ,hpn,hk2,hk1,if_true,if_false] at hcc;simp only[show ((1:Int)=2)=False by simp,if_false] at hcc;refine Ac (hcc) [5] [0,2] (by simp) ?_;simp[hk2,hk3,hk1];exact⟨[0],by simp[AO,BJ,hpf,hk2,hk1]⟩
             · simp only[Ew,Cf,AO,BJ,hpn,hk2,hk1,if_true,if_false] at hcc;refine Ac (hcc) [5] [0,2] (by simp) ?_;simp[hk2,hk3,hk1];exact⟨[0],by simp[AO,BJ,hpf,hk2,hk1]⟩
         · obtain⟨hp3,hp4⟩:=hp2 hc1 hc2;have hRe:=hR3 hc1 hc2;subst hRe;simp;refine Av [(8,[0]),(9,[]),(10,[]),(11,[])] (by kernel_rfl) ?_;simp;refine Ab (DF dec (by omega) hdb) ?_;simp
           first | refine Bs (q:=1) AM (by exact rfl) (by simp) (by exact rfl) (by exact rfl) (by simp) (by simp) (by first | (simp;done)|(simp;omega)) ?_|refine Br AM (by exact rfl) (by simp) (by exact rfl) (by simp) (by first | (simp;done)|(simp;omega)) ?_
           simp;exact⟨[0,5],by simp[AO,D7,hpf,Az,e1]⟩
     have hd1:dec[dec.length - 1]? = some l:=by rw[hdec];simp
     have hd2:0<dec.length:=by rw[hdec];simp
     have hd3:¬ dec=[]:=by rw[hdec];simp
     clear hdec;have wd:IntKind.i64.wrap ((dec.length:Int) - 1)=((dec.length - 1:Nat):Int):=by rw[Ad (by omega) (by omega)];omega
     have hol:=Ed par l;have hot:=EY ht l;rcases E2 (n:=v) hl with ⟨m,hm,e⟩|⟨m,hm,e⟩
     · have hse:Dg par l=par.set m 1:=by rw[e];exact Ee par m
       rw[hse] at hR hol hot;rw[hp] at hol;have hg:=getD_some (p:=par) (m:=m) (by omega);have w3:IntKind.i64.wrap (l - 1)=(m:Int):=by rw[Ad (by omega) (by omega)];omega
       have hset:=El (q:=par) (m:=m) (v:=1);generalize par.set m 1=own at *;generalize par.getD m 0=z0 at hg;simp[hd1,hd2,hd3,wd,show 0<l by omega,show ¬ l≤0 by omega,  w3,hg,hset];have hP:=Hg cls own _ rfl hc (by omega) hot (by rw[hol];exact hcl);have hPf:=fun q=>C2 (cls:=cls) (p:=own) (p':=q) (by rw[hol];exact hcl) hot;generalize ET cls own=Rq at *;refine Ab (hP) ?_;simp
       cases Rq with
       | none =>
         simp only at hR;subst hR;simp;refine Av [(8,[0]),(9,[]),(10,[]),(11,[])] (by kernel_rfl) ?_;simp;refine Ab (DF dec (by omega) hdb) ?_;simp
         first | refine Bs (q:=1) AM (by exact rfl) (by simp) (by exact rfl) (by exact rfl) (by simp) (by simp) (by first | (simp;done)|(simp;omega)) ?_|refine Br AM (by exact rfl) (by simp) (by exact rfl) (by simp) (by first | (simp;done)|(simp;omega)) ?_
         simp;exact⟨[0,5],by simp[AO,D7,hpf,Az,e1]⟩
       | some q =>
         obtain⟨hql,hqt,-⟩:=hPf q rfl;rw[hol] at hql;have hzl:=D3 q;have hz0:=DJ (q:=q)
         replace hR:GO S (left - 1) dec pf q=R:=hR
         simp;refine AB [true,true,false,false,false,false,false,false,false,true,false,true] (fun i:Nat=>i≤q.length∧Am (q.drop i)+i=Am q) (fun i:Nat=>[(11,.d (.int .i64 i))]) (fun i:Nat=>[]) (fun i:Nat=>q.length - i) 0 ?_ ?_ ?_
         · exact⟨by omega,by simp⟩
         · exact⟨[0,1,2],by simp⟩
         rintro I Z μ hI hS hμ i ⟨hi,hzi⟩;by_cases hend:i=Am q
         case neg =>
          have hlt:i<q.length:=by
           rcases Nat.lt_or_ge i q.length with h|h
           · exact h
           · rw[List.drop_eq_nil_of_le h,Am] at hzi;omega
          have hx1:q[i]? = some q[i]:=zz0 hlt;rw[FB hx1] at hzi;generalize q[i]=y at *;by_cases hy:y=0
          · rw[if_pos hy] at hzi;omega
          rw[if_neg hy] at hzi;have w5:IntKind.i64.wrap ((i:Int)+1)=(i:Int)+1:=Ad (by omega) (by omega);simp[zz2 hlt,hx1,hy,show (y != 0)=true by simpa using hy,w5];exact Ae hI hS hμ (i+1) ⟨by omega,by omega⟩ (by omega) ⟨[0,1,2],by simp⟩
         subst hend;clear hzi;by_cases hfull:Am q=q.length
         · have hRf:=DP hR hfull;clear hR;subst hRf;have hlt:¬ Am q<q.length:=by omega
           simp[hlt,zz3 hlt,hfull];exact⟨[0],by simp[AO,BJ,hpf]⟩
         obtain⟨r1,r2,hC1,hC2,hR1,hR2,hR3,hp1,hp2⟩:=GJ hv ih hF hR hfull hql hqt (by omega) (by omega) hdl hdk (by omega) hpc;clear hR ih hF;have hlt:Am q<q.length:=by omega
         have hx0:=hz0 hlt;clear hz0;generalize Am q=z at *;have wz:IntKind.i64.wrap ((z:Int)+1)=(z:Int)+1:=Ad (by omega) (by omega);have wn:IntKind.i64.wrap (-((z:Int)+1))=-((z:Int)+1):=Ad (by omega) (by omega);have hzn:¬ z=q.length:=hfull;have hzf:((z:Int)==(q.length:Int))=false:=beq_false_of_ne (fun h=>hzn (Int.ofNat.inj h));have hzg:(z==q.length)=false:=beq_false_of_ne hzn;simp[zz2 hlt,hx0,wz,wn,hzn,hzf,hzg];refine AH [true,true,false,false,false,false,false,false,false,true,false,false,false,false,false,false,false,false,false,false,false,false,false,false,false,false,false,false,false,false,false,false,false,false,false,false,false,false,false,false,false,false,false,false,false,false,false,false,false,false,false,false,false,false,false,false,false,false,false,false,false,false,false,false,false,false,false,false,false,false,false,false,false,false,false,false,false,false,false,false,false,false,false,false,false,false,false,false,false,false,true,true,true] (fun i:Nat=>i=0∨(i=1∧r1.code=2)∨(i=2∧r1.code=2∧r2.code=2)) (fun i:Nat=>[(9,.d (.sl 3 (q.map (e1 AC)))),(90,.ref 1),(91,.d (.int .i64 2)),(92,.d (.int .i64 i))]) (fun i:Nat=>fun _=>if i=0 then [G8 v cls B (.d (.int .i64 (B - (left - 1:Nat)))) (.nil 26) .any,.arr 3 true [[.int .i64 (-((z:Int)+1))],[.int .i64 ((z:Int)+1)]]] else if i=1 then [G8 v cls B (.d (.int .i64 (B - (r1.left:Nat)))) (.ref 2) .any,.arr 3 true [[.int .i64 (-((z:Int)+1))],[.int .i64 ((z:Int)+1)]],.arr 26 true (r1.pf.map Az)] else [G8 v cls B (.d (.int .i64 (B - (r2.left:Nat)))) (.ref 2) .any,.arr 3 true [[.int .i64 (-((z:Int)+1))],[.int .i64 ((z:Int)+1)]],.arr 26 true (r2.pf.map Az)]) (fun i:Nat=>2 - i) 0 ?_ ?_ ?_
         · simp
         · exact⟨[0,3],by simp⟩
         rintro I2 Z2 μ2 hI2 hS2 hμ2 i (rfl|⟨rfl,hc1⟩|⟨rfl,hc1,hc2⟩)
         · simp;refine Ab (Cw dec (by omega)) ?_;simp;refine Ak As rfl (by simp) rfl (by simp) (by simp) (by first | (simp;done)|(simp;omega)) (by simp[AR,AL]) ?_;simp;have hcc:=hC1;by_cases hk2:r1.code=2
           · simp only[Ew,Cf,AO,D7,hpf,hk2,if_true,if_false] at hcc;refine Ac (hcc) [4] [0] (by simp) ?_;simp[hk2,show IntKind.i64.wrap 1=1 from rfl,show IntKind.i64.wrap 2=2 from rfl];exact Ae hI2 hS2 hμ2 1 (.inr (.inl ⟨rfl,hk2⟩)) (by simp) ⟨[0,1,5],by simp⟩
           · have hRe:=hR1 hk2;subst hRe;have hk3:(R.code != 2)=true:=by simpa using hk2
             by_cases hk1:R.code=1
             · simp only[Ew,Cf,AO,BJ,hpf,hk2,hk1,if_true,if_false] at hcc;simp only[show ((1:Int)=2)=False by simp,if_false] at hcc;refine Ac (hcc) [4] [0] (by simp) ?_;simp[hk2,hk3,hk1];exact⟨[0],by simp[AO,BJ,hpf,hk2,hk1]⟩
             · simp only[Ew,Cf,AO,BJ,hpf,hk2,hk1,if_true,if_false] at hcc;refine Ac (hcc) [4] [0] (by simp) ?_;simp[hk2,hk3,hk1];exact⟨[0],by simp[AO,BJ,hpf,hk2,hk1]⟩
         · have hpn:=hp1 hc1;simp;refine Ab (Cw dec (by omega)) ?_;simp;refine Ak As rfl (by simp) rfl (by simp) (by simp) (by first | (simp;done)|(simp;omega)) (by simp[AR,AL]) ?_;simp;have hcc:=hC2 hc1;by_cases hk2:r2.code=2
           · simp only[Ew,Cf,AO,D7,hpn,hk2,if_true,if_false] at hcc;refine Ac (hcc) [5] [0,2] (by simp) ?_;simp[hk2,show IntKind.i64.wrap 1=1 from rfl,show IntKind.i64.wrap 2=2 from rfl];exact Ae hI2 hS2 hμ2 2 (.inr (.inr ⟨rfl,hc1,hk2⟩)) (by simp) ⟨[0,1,6],by simp⟩
           · have hRe:=hR2 hc1 hk2;subst hRe;have hk3:(R.code != 2)=true:=by simpa using hk2
             by_cases hk1:R.code=1
             · simp only[Ew,Cf,AO,BJ,hpn,hk2,hk1,if_true,if_false] at hcc;simp only[show ((1:Int)=2)=False by simp,if_false] at hcc;refine Ac (hcc) [5] [0,2] (by simp) ?_;simp[hk2,hk3,hk1];exact⟨[0],by simp[AO,BJ,hpf,hk2,hk1]⟩
             · simp only[Ew,Cf,AO,BJ,hpn,hk2,hk1,if_true,if_false] at hcc;refine Ac (hcc) [5] [0,2] (by simp) ?_;simp[hk2,hk3,hk1];exact⟨[0],by simp[AO,BJ,hpf,hk2,hk1]⟩
         · obtain⟨hp3,hp4⟩:=hp2 hc1 hc2;have hRe:=hR3 hc1 hc2;subst hRe;simp;refine Av [(8,[0]),(9,[]),(10,[]),(11,[])] (by kernel_rfl) ?_;simp;refine Ab (DF dec (by omega) hdb) ?_;simp
           first | refine Bs (q:=1) AM (by exact rfl) (by simp) (by exact rfl) (by exact rfl) (by simp) (by simp) (by first | (simp;done)|(simp;omega)) ?_|refine Br AM (by exact rfl) (by simp) (by exact rfl) (by simp) (by first | (simp;done)|(simp;omega)) ?_
           simp;exact⟨[0,5],by simp[AO,D7,hpf,Az,e1]⟩
     · have hse:Dg par l=par.set m (-1):=by rw[e];exact Ef par m
       rw[hse] at hR hol hot;rw[hp] at hol;have hg:=getD_some (p:=par) (m:=m) (by omega);have w3:IntKind.i64.wrap (-l)=(m:Int)+1:=by rw[Ad (by omega) (by omega)];omega
       have w4:IntKind.i64.wrap (m:Int)=(m:Int):=Ad (by omega) (by omega);have hset:=El (q:=par) (m:=m) (v:=-1);generalize par.set m (-1)=own at *;generalize par.getD m 0=z0 at hg;simp[hd1,hd2,hd3,wd,show ¬ 0<l by omega,show l≤0 by omega,w4,  w3,hg,hset];have hP:=Hg cls own _ rfl hc (by omega) hot (by rw[hol];exact hcl);have hPf:=fun q=>C2 (cls:=cls) (p:=own) (p':=q) (by rw[hol];exact hcl) hot;generalize ET cls own=Rq at *;refine Ab (hP) ?_;simp
       cases Rq with
       | none =>
         simp only at hR;subst hR;simp;refine Av [(8,[0]),(9,[]),(10,[]),(11,[])] (by kernel_rfl) ?_;simp;refine Ab (DF dec (by omega) hdb) ?_;simp
         first | refine Bs (q:=1) AM (by exact rfl) (by simp) (by exact rfl) (by exact rfl) (by simp) (by simp) (by first | (simp;done)|(simp;omega)) ?_|refine Br AM (by exact rfl) (by simp) (by exact rfl) (by simp) (by first | (simp;done)|(simp;omega)) ?_
         simp;exact⟨[0,5],by simp[AO,D7,hpf,Az,e1]⟩
       | some q =>
         obtain⟨hql,hqt,-⟩:=hPf q rfl;rw[hol] at hql;have hzl:=D3 q;have hz0:=DJ (q:=q)
         replace hR:GO S (left - 1) dec pf q=R:=hR
         simp;refine AB [true,true,false,false,false,false,false,false,false,true,false,true] (fun i:Nat=>i≤q.length∧Am (q.drop i)+i=Am q) (fun i:Nat=>[(11,.d (.int .i64 i))]) (fun i:Nat=>[]) (fun i:Nat=>q.length - i) 0 ?_ ?_ ?_
         · exact⟨by omega,by simp⟩
         · exact⟨[0,1,2],by simp⟩
         rintro I Z μ hI hS hμ i ⟨hi,hzi⟩;by_cases hend:i=Am q
         case neg =>
          have hlt:i<q.length:=by
           rcases Nat.lt_or_ge i q.length with h|h
           · exact h
           · rw[List.drop_eq_nil_of_le h,Am] at hzi;omega
          have hx1:q[i]? = some q[i]:=zz0 hlt;rw[FB hx1] at hzi;generalize q[i]=y at *;by_cases hy:y=0
          · rw[if_pos hy] at hzi;omega
          rw[if_neg hy] at hzi;have w5:IntKind.i64.wrap ((i:Int)+1)=(i:Int)+1:=Ad (by omega) (by omega);simp[zz2 hlt,hx1,hy,show (y != 0)=true by simpa using hy,w5];exact Ae hI hS hμ (i+1) ⟨by omega,by omega⟩ (by omega) ⟨[0,1,2],by simp⟩
         subst hend;clear hzi;by_cases hfull:Am q=q.length
         · have hRf:=DP hR hfull;clear hR;subst hRf;have hlt:¬ Am q<q.length:=by omega
           simp[hlt,zz3 hlt,hfull];exact⟨[0],by simp[AO,BJ,hpf]⟩
         obtain⟨r1,r2,hC1,hC2,hR1,hR2,hR3,hp1,hp2⟩:=GJ hv ih hF hR hfull hql hqt (by omega) (by omega) hdl hdk (by omega) hpc;clear hR ih hF;have hlt:Am q<q.length:=by omega
         have hx0:=hz0 hlt;clear hz0;generalize Am q=z at *;have wz:IntKind.i64.wrap ((z:Int)+1)=(z:Int)+1:=Ad (by omega) (by omega);have wn:IntKind.i64.wrap (-((z:Int)+1))=-((z:Int)+1):=Ad (by omega) (by omega);have hzn:¬ z=q.length:=hfull;have hzf:((z:Int)==(q.length:Int))=false:=beq_false_of_ne (fun h=>hzn (Int.ofNat.inj h));have hzg:(z==q.length)=false:=beq_false_of_ne hzn;simp[zz2 hlt,hx0,wz,wn,hzn,hzf,hzg];refine AH [true,true,false,false,false,false,false,false,false,true,false,false,false,false,false,false,false,false,false,false,false,false,false,false,false,false,false,false,false,false,false,false,false,false,false,false,false,false,false,false,false,false,false,false,false,false,false,false,false,false,false,false,false,false,false,false,false,false,false,false,false,false,false,false,false,false,false,false,false,false,false,false,false,false,false,false,false,false,false,false,false,false,false,false,false,false,false,false,false,false,true,true,true] (fun i:Nat=>i=0∨(i=1∧r1.code=2)∨(i=2∧r1.code=2∧r2.code=2)) (fun i:Nat=>[(9,.d (.sl 3 (q.map (e1 AC)))),(90,.ref 1),(91,.d (.int .i64 2)),(92,.d (.int .i64 i))]) (fun i:Nat=>fun _=>if i=0 then [G8 v cls B (.d (.int .i64 (B - (left - 1:Nat)))) (.nil 26) .any,.arr 3 true [[.int .i64 (-((z:Int)+1))],[.int .i64 ((z:Int)+1)]]] else if i=1 then [G8 v cls B (.d (.int .i64 (B - (r1.left:Nat)))) (.ref 2) .any,.arr 3 true [[.int .i64 (-((z:Int)+1))],[.int .i64 ((z:Int)+1)]],.arr 26 true (r1.pf.map Az)] else [G8 v cls B (.d (.int .i64 (B - (r2.left:Nat)))) (.ref 2) .any,.arr 3 true [[.int .i64 (-((z:Int)+1))],[.int .i64 ((z:Int)+1)]],.arr 26 true (r2.pf.map Az)]) (fun i:Nat=>2 - i) 0 ?_ ?_ ?_
         · simp
         · exact⟨[0,3],by simp⟩
         rintro I2 Z2 μ2 hI2 hS2 hμ2 i (rfl|⟨rfl,hc1⟩|⟨rfl,hc1,hc2⟩)
         · simp;refine Ab (Cw dec (by omega)) ?_;simp;refine Ak As rfl (by simp) rfl (by simp) (by simp) (by first | (simp;done)|(simp;omega)) (by simp[AR,AL]) ?_;simp;have hcc:=hC1;by_cases hk2:r1.code=2
           · simp only[Ew,Cf,AO,D7,hpf,hk2,if_true,if_false] at hcc;refine Ac (hcc) [4] [0] (by simp) ?_;simp[hk2,show IntKind.i64.wrap 1=1 from rfl,show IntKind.i64.wrap 2=2 from rfl];exact Ae hI2 hS2 hμ2 1 (.inr (.inl ⟨rfl,hk2⟩)) (by simp) ⟨[0,1,5],by simp⟩
           · have hRe:=hR1 hk2;subst hRe;have hk3:(R.code != 2)=true:=by simpa using hk2
             by_cases hk1:R.code=1
             · simp only[Ew,Cf,AO,BJ,hpf,hk2,hk1,if_true,if_false] at hcc;simp only[show ((1:Int)=2)=False by simp,if_false] at hcc;refine Ac (hcc) [4] [0] (by simp) ?_;simp[hk2,hk3,hk1];exact⟨[0],by simp[AO,BJ,hpf,hk2,hk1]⟩
             · simp only[Ew,Cf,AO,BJ,hpf,hk2,hk1,if_true,if_false] at hcc;refine Ac (hcc) [4] [0] (by simp) ?_;simp[hk2,hk3,hk1];exact⟨[0],by simp[AO,BJ,hpf,hk2,hk1]⟩
         · have hpn:=hp1 hc1;simp;refine Ab (Cw dec (by omega)) ?_;simp;refine Ak As rfl (by simp) rfl (by simp) (by simp) (by first | (simp;done)|(simp;omega)) (by simp[AR,AL]) ?_;simp;have hcc:=hC2 hc1;by_cases hk2:r2.code=2
           · simp only[Ew,Cf,AO,D7,hpn,hk2,if_true,if_false] at hcc;refine Ac (hcc) [5] [0,2] (by simp) ?_;simp[hk2,show IntKind.i64.wrap 1=1 from rfl,show IntKind.i64.wrap 2=2 from rfl];exact Ae hI2 hS2 hμ2 2 (.inr (.inr ⟨rfl,hc1,hk2⟩)) (by simp) ⟨[0,1,6],by simp⟩
           · have hRe:=hR2 hc1 hk2;subst hRe;have hk3:(R.code != 2)=true:=by simpa using hk2
             by_cases hk1:R.code=1
             · simp only[Ew,Cf,AO,BJ,hpn,hk2,hk1,if_true,if_false] at hcc;simp only[show ((1:Int)=2)=False by simp,if_false] at hcc;refine Ac (hcc) [5] [0,2] (by simp) ?_;simp[hk2,hk3,hk1];exact⟨[0],by simp[AO,BJ,hpf,hk2,hk1]⟩
             · simp only[Ew,Cf,AO,BJ,hpn,hk2,hk1,if_true,if_false] at hcc;refine Ac (hcc) [5] [0,2] (by simp) ?_;simp[hk2,hk3,hk1];exact⟨[0],by simp[AO,BJ,hpf,hk2,hk1]⟩
         · obtain⟨hp3,hp4⟩:=hp2 hc1 hc2;have hRe:=hR3 hc1 hc2;subst hRe;simp;refine Av [(8,[0]),(9,[]),(10,[]),(11,[])] (by kernel_rfl) ?_;simp;refine Ab (DF dec (by omega) hdb) ?_;simp
           first | refine Bs (q:=1) AM (by exact rfl) (by simp) (by exact rfl) (by exact rfl) (by simp) (by simp) (by first | (simp;done)|(simp;omega)) ?_|refine Br AM (by exact rfl) (by simp) (by exact rfl) (by simp) (by first | (simp;done)|(simp;omega)) ?_
           simp;exact⟨[0,5],by simp[AO,D7,hpf,Az,e1]⟩
   · simp[Cf,hpf];refine AJ 9 (by kernel_rfl) ?_;simp;by_cases h0:left=0
     · rw[if_pos h0] at hR;subst hR h0;simp[AO,BJ,hpf];exact⟨[0,1],by simp⟩
     rw[if_neg h0] at hR;have wv:IntKind.i64.wrap (B - (left:Int)+1)=B - ((left - 1:Nat):Int):=by rw[Ad (by omega) (by omega)];omega
     simp[show ¬ B≤B - (left:Int) by omega,show B - (left:Int)<B by omega,show (0:Int)<left by omega,h0,wv];refine Ab (Cw par (by omega)) ?_;simp;rcases hd with ⟨hd0,rfl⟩|⟨d0,l,hdec,hl,rfl⟩
     · have hdz:dec.length=0:=by rw[hd0];rfl
       clear hd0;have hol:=hp;have hot:=ht;simp[hdz];intro _;have hP:=Hg cls own _ rfl hc (by omega) hot (by rw[hol];exact hcl);have hPf:=fun q=>C2 (cls:=cls) (p:=own) (p':=q) (by rw[hol];exact hcl) hot;generalize ET cls own=Rq at *;refine Ab (hP) ?_;simp
       cases Rq with
       | none =>
         simp only at hR;subst hR;simp;refine Av [(8,[0]),(9,[]),(10,[]),(11,[])] (by kernel_rfl) ?_;simp;refine Ab (DF dec (by omega) hdb) ?_;simp
         first | refine Bs (q:=1) AM (by exact rfl) (by simp) (by exact rfl) (by exact rfl) (by simp) (by simp) (by first | (simp;done)|(simp;omega)) ?_|refine Br AM (by exact rfl) (by simp) (by exact rfl) (by simp) (by first | (simp;done)|(simp;omega)) ?_
         simp;exact⟨[0,1,6],by simp[AO,D7,hpf,Az,e1]⟩
       | some q =>
         obtain⟨hql,hqt,-⟩:=hPf q rfl;rw[hol] at hql;have hzl:=D3 q;have hz0:=DJ (q:=q)
         replace hR:GO S (left - 1) dec pf q=R:=hR
         simp;refine AB [true,true,false,false,false,false,false,false,false,true,false,true] (fun i:Nat=>i≤q.length∧Am (q.drop i)+i=Am q) (fun i:Nat=>[(11,.d (.int .i64 i))]) (fun i:Nat=>[]) (fun i:Nat=>q.length - i) 0 ?_ ?_ ?_
         · exact⟨by omega,by simp⟩
         · exact⟨[0,1,2,3],by simp⟩
         rintro I Z μ hI hS hμ i ⟨hi,hzi⟩;by_cases hend:i=Am q
         case neg =>
          have hlt:i<q.length:=by
           rcases Nat.lt_or_ge i q.length with h|h
           · exact h
           · rw[List.drop_eq_nil_of_le h,Am] at hzi;omega
          have hx1:q[i]? = some q[i]:=zz0 hlt;rw[FB hx1] at hzi;generalize q[i]=y at *;by_cases hy:y=0
          · rw[if_pos hy] at hzi;omega
          rw[if_neg hy] at hzi;have w5:IntKind.i64.wrap ((i:Int)+1)=(i:Int)+1:=Ad (by omega) (by omega);simp[zz2 hlt,hx1,hy,show (y != 0)=true by simpa using hy,w5];exact Ae hI hS hμ (i+1) ⟨by omega,by omega⟩ (by omega) ⟨[0,1,2,3],by simp⟩
         subst hend;clear hzi;by_cases hfull:Am q=q.length
         · have hRf:=DP hR hfull;clear hR;subst hRf;have hlt:¬ Am q<q.length:=by omega
           simp[hlt,zz3 hlt,hfull];exact⟨[0,1],by simp[AO,BJ,hpf]⟩
         obtain⟨r1,r2,hC1,hC2,hR1,hR2,hR3,hp1,hp2⟩:=GJ hv ih hF hR hfull hql hqt (by omega) (by omega) hdl hdk (by omega) hpc;clear hR ih hF;have hlt:Am q<q.length:=by omega
         have hx0:=hz0 hlt;clear hz0;generalize Am q=z at *;have wz:IntKind.i64.wrap ((z:Int)+1)=(z:Int)+1:=Ad (by omega) (by omega);have wn:IntKind.i64.wrap (-((z:Int)+1))=-((z:Int)+1):=Ad (by omega) (by omega);have hzn:¬ z=q.length:=hfull;have hzf:((z:Int)==(q.length:Int))=false:=beq_false_of_ne (fun h=>hzn (Int.ofNat.inj h));have hzg:(z==q.length)=false:=beq_false_of_ne hzn;simp[zz2 hlt,hx0,wz,wn,hzn,hzf,hzg];refine AH [true,true,false,false,false,false,false,false,false,true,false,false,false,false,false,false,false,false,false,false,false,false,false,false,false,false,false,false,false,false,false,false,false,false,false,false,false,false,false,false,false,false,false,false,false,false,false,false,false,false,false,false,false,false,false,false,false,false,false,false,false,false,false,false,false,false,false,false,false,false,false,false,false,false,false,false,false,false,false,false,false,false,false,false,false,false,false,false,false,false,true,true,true] (fun i:Nat=>i=0∨(i=1∧r1.code=2)∨(i=2∧r1.code=2∧r2.code=2)) (fun i:Nat=>[(9,.d (.sl 3 (q.map (e1 AC)))),(90,.ref 2),(91,.d (.int .i64 2)),(92,.d (.int .i64 i))]) (fun i:Nat=>fun _=>if i=0 then [G8 v cls B (.d (.int .i64 (B - (left - 1:Nat)))) (.ref 1) .any,.arr 26 true (pf.map Az),.arr 3 true [[.int .i64 (-((z:Int)+1))],[.int .i64 ((z:Int)+1)]]] else if i=1 then [G8 v cls B (.d (.int .i64 (B - (r1.left:Nat)))) (.ref 3) .any,.dead,.arr 3 true [[.int .i64 (-((z:Int)+1))],[.int .i64 ((z:Int)+1)]],.arr 26 true (r1.pf.map Az)] else [G8 v cls B (.d (.int .i64 (B - (r2.left:Nat)))) (.ref 3) .any,.dead,.arr 3 true [[.int .i64 (-((z:Int)+1))],[.int .i64 ((z:Int)+1)]],.arr 26 true (r2.pf.map Az)]) (fun i:Nat=>2 - i) 0 ?_ ?_ ?_
         · simp
         · exact⟨[0,1,4],by simp⟩
         rintro I2 Z2 μ2 hI2 hS2 hμ2 i (rfl|⟨rfl,hc1⟩|⟨rfl,hc1,hc2⟩)
         · simp;refine Ab (Cw dec (by omega)) ?_;simp;refine Ak As rfl (by simp) rfl (by simp) (by simp) (by first | (simp;done)|(simp;omega)) (by simp[AR,AL]) ?_;simp;have hcc:=hC1;by_cases hk2:r1.code=2
           · simp only[Ew,Cf,AO,D7,hpf,hk2,if_true,if_false] at hcc;refine Ac (hcc) [5] [0,1] (by simp) ?_;simp[hk2,show IntKind.i64.wrap 1=1 from rfl,show IntKind.i64.wrap 2=2 from rfl];exact Ae hI2 hS2 hμ2 1 (.inr (.inl ⟨rfl,hk2⟩)) (by simp) ⟨[0,1,2,6],by simp⟩
           · have hRe:=hR1 hk2;subst hRe;have hk3:(R.code != 2)=true:=by simpa using hk2
             by_cases hk1:R.code=1
             · simp only[Ew,Cf,AO,BJ,hpf,hk2,hk1,if_true,if_false] at hcc;simp only[show ((1:Int)=2)=False by simp,if_false] at hcc;refine Ac (hcc) [5] [0,1] (by simp) ?_;simp[hk2,hk3,hk1];exact⟨[0,1],by simp[AO,BJ,hpf,hk2,hk1]⟩
             · simp only[Ew,Cf,AO,BJ,hpf,hk2,hk1,if_true,if_false] at hcc;refine Ac (hcc) [5] [0,1] (by simp) ?_;simp[hk2,hk3,hk1];exact⟨[0,1],by simp[AO,BJ,hpf,hk2,hk1]⟩
         · have hpn:=hp1 hc1;simp;refine Ab (Cw dec (by omega)) ?_;simp;refine Ak As rfl (by simp) rfl (by simp) (by simp) (by first | (simp;done)|(simp;omega)) (by simp[AR,AL]) ?_;simp;have hcc:=hC2 hc1;by_cases hk2:r2.code=2
           · simp only[Ew,Cf,AO,D7,hpn,hk2,if_true,if_false] at hcc;refine Ac (hcc) [6] [0,3] (by simp) ?_;simp[hk2,show IntKind.i64.wrap 1=1 from rfl,show IntKind.i64.wrap 2=2 from rfl];exact Ae hI2 hS2 hμ2 2 (.inr (.inr ⟨rfl,hc1,hk2⟩)) (by simp) ⟨[0,1,2,7],by simp⟩
           · have hRe:=hR2 hc1 hk2;subst hRe;have hk3:(R.code != 2)=true:=by simpa using hk2
             by_cases hk1:R.code=1
             · simp only[Ew,Cf,AO,BJ,hpn,hk2,hk1,if_true,if_false] at hcc;simp only[show ((1:Int)=2)=False by simp,if_false] at hcc;refine Ac (hcc) [6] [0,3] (by simp) ?_;simp[hk2,hk3,hk1];exact⟨[0,1],by simp[AO,BJ,hpf,hk2,hk1]⟩
             · simp only[Ew,Cf,AO,BJ,hpn,hk2,hk1,if_true,if_false] at hcc;refine Ac (hcc) [6] [0,3] (by simp) ?_;simp[hk2,hk3,hk1];exact⟨[0,1],by simp[AO,BJ,hpf,hk2,hk1]⟩
         · obtain⟨hp3,hp4⟩:=hp2 hc1 hc2;have hRe:=hR3 hc1 hc2;subst hRe;simp;refine Av [(8,[0]),(9,[]),(10,[]),(11,[])] (by kernel_rfl) ?_;simp;refine Ab (DF dec (by omega) hdb) ?_;simp
           first | refine Bs (q:=1) AM (by exact rfl) (by simp) (by exact rfl) (by exact rfl) (by simp) (by simp) (by first | (simp;done)|(simp;omega)) ?_|refine Br AM (by exact rfl) (by simp) (by exact rfl) (by simp) (by first | (simp;done)|(simp;omega)) ?_
           simp;exact⟨[0,1,6],by simp[AO,D7,hpf,Az,e1]⟩
     have hd1:dec[dec.length - 1]? = some l:=by rw[hdec];simp
     have hd2:0<dec.length:=by rw[hdec];simp
     have hd3:¬ dec=[]:=by rw[hdec];simp
     clear hdec;have wd:IntKind.i64.wrap ((dec.length:Int) - 1)=((dec.length - 1:Nat):Int):=by rw[Ad (by omega) (by omega)];omega
     have hol:=Ed par l;have hot:=EY ht l;rcases E2 (n:=v) hl with ⟨m,hm,e⟩|⟨m,hm,e⟩
     · have hse:Dg par l=par.set m 1:=by rw[e];exact Ee par m
       rw[hse] at hR hol hot;rw[hp] at hol;have hg:=getD_some (p:=par) (m:=m) (by omega);have w3:IntKind.i64.wrap (l - 1)=(m:Int):=by rw[Ad (by omega) (by omega)];omega
       have hset:=El (q:=par) (m:=m) (v:=1);generalize par.set m 1=own at *;generalize par.getD m 0=z0 at hg;simp[hd1,hd2,hd3,wd,show 0<l by omega,show ¬ l≤0 by omega,  w3,hg,hset];have hP:=Hg cls own _ rfl hc (by omega) hot (by rw[hol];exact hcl);have hPf:=fun q=>C2 (cls:=cls) (p:=own) (p':=q) (by rw[hol];exact hcl) hot;generalize ET cls own=Rq at *;refine Ab (hP) ?_;simp
       cases Rq with
       | none =>
         simp only at hR;subst hR;simp;refine Av [(8,[0]),(9,[]),(10,[]),(11,[])] (by kernel_rfl) ?_;simp;refine Ab (DF dec (by omega) hdb) ?_;simp
         first | refine Bs (q:=1) AM (by exact rfl) (by simp) (by exact rfl) (by exact rfl) (by simp) (by simp) (by first | (simp;done)|(simp;omega)) ?_|refine Br AM (by exact rfl) (by simp) (by exact rfl) (by simp) (by first | (simp;done)|(simp;omega)) ?_
         simp;exact⟨[0,1,6],by simp[AO,D7,hpf,Az,e1]⟩
       | some q =>
         obtain⟨hql,hqt,-⟩:=hPf q rfl;rw[hol] at hql;have hzl:=D3 q;have hz0:=DJ (q:=q)
         replace hR:GO S (left - 1) dec pf q=R:=hR
         simp;refine AB [true,true,false,false,false,false,false,false,false,true,false,true] (fun i:Nat=>i≤q.length∧Am (q.drop i)+i=Am q) (fun i:Nat=>[(11,.d (.int .i64 i))]) (fun i:Nat=>[]) (fun i:Nat=>q.length - i) 0 ?_ ?_ ?_
         · exact⟨by omega,by simp⟩
         · exact⟨[0,1,2,3],by simp⟩
         rintro I Z μ hI hS hμ i ⟨hi,hzi⟩;by_cases hend:i=Am q
         case neg =>
          have hlt:i<q.length:=by
           rcases Nat.lt_or_ge i q.length with h|h
           · exact h
           · rw[List.drop_eq_nil_of_le h,Am] at hzi;omega
          have hx1:q[i]? = some q[i]:=zz0 hlt;rw[FB hx1] at hzi;generalize q[i]=y at *;by_cases hy:y=0
          · rw[if_pos hy] at hzi;omega
          rw[if_neg hy] at hzi;have w5:IntKind.i64.wrap ((i:Int)+1)=(i:Int)+1:=Ad (by omega) (by omega);simp[zz2 hlt,hx1,hy,show (y != 0)=true by simpa using hy,w5];exact Ae hI hS hμ (i+1) ⟨by omega,by omega⟩ (by omega) ⟨[0,1,2,3],by simp⟩
         subst hend;clear hzi;by_cases hfull:Am q=q.length
         · have hRf:=DP hR hfull;clear hR;subst hRf;have hlt:¬ Am q<q.length:=by omega
           simp[hlt,zz3 hlt,hfull];exact⟨[0,1],by simp[AO,BJ,hpf]⟩
         obtain⟨r1,r2,hC1,hC2,hR1,hR2,hR3,hp1,hp2⟩:=GJ hv ih hF hR hfull hql hqt (by omega) (by omega) hdl hdk (by omega) hpc;clear hR ih hF;have hlt:Am q<q.length:=by omega
         have hx0:=hz0 hlt;clear hz0;generalize Am q=z at *;have wz:IntKind.i64.wrap ((z:Int)+1)=(z:Int)+1:=Ad (by omega) (by omega);have wn:IntKind.i64.wrap (-((z:Int)+1))=-((z:Int)+1):=Ad (by omega) (by omega);have hzn:¬ z=q.length:=hfull;have hzf:((z:Int)==(q.length:Int))=false:=beq_false_of_ne (fun h=>hzn (Int.ofNat.inj h));have hzg:(z==q.length)=false:=beq_false_of_ne hzn;simp[zz2 hlt,hx0,wz,wn,hzn,hzf,hzg];refine AH [true,true,false,false,false,false,false,false,false,true,false,false,false,false,false,false,false,false,false,false,false,false,false,false,false,false,false,false,false,false,false,false,false,false,false,false,false,false,false,false,false,false,false,false,false,false,false,false,false,false,false,false,false,false,false,false,false,false,false,false,false,false,false,false,false,false,false,false,false,false,false,false,false,false,false,false,false,false,false,false,false,false,false,false,false,false,false,false,false,false,true,true,true] (fun i:Nat=>i=0∨(i=1∧r1.code=2)∨(i=2∧r1.code=2∧r2.code=2)) (fun i:Nat=>[(9,.d (.sl 3 (q.map (e1 AC)))),(90,.ref 2),(91,.d (.int .i64 2)),(92,.d (.int .i64 i))]) (fun i:Nat=>fun _=>if i=0 then [G8 v cls B (.d (.int .i64 (B - (left - 1:Nat)))) (.ref 1) .any,.arr 26 true (pf.map Az),.arr 3 true [[.int .i64 (-((z:Int)+1))],[.int .i64 ((z:Int)+1)]]] else if i=1 then [G8 v cls B (.d (.int .i64 (B - (r1.left:Nat)))) (.ref 3) .any,.dead,.arr 3 true [[.int .i64 (-((z:Int)+1))],[.int .i64 ((z:Int)+1)]],.arr 26 true (r1.pf.map Az)] else [G8 v cls B (.d (.int .i64 (B - (r2.left:Nat)))) (.ref 3) .any,.dead,.arr 3 true [[.int .i64 (-((z:Int)+1))],[.int .i64 ((z:Int)+1)]],.arr 26 true (r2.pf.map Az)]) (fun i:Nat=>2 - i) 0 ?_ ?_ ?_
         · simp
         · exact⟨[0,1,4],by simp⟩
         rintro I2 Z2 μ2 hI2 hS2 hμ2 i (rfl|⟨rfl,hc1⟩|⟨rfl,hc1,hc2⟩)
         · simp;refine Ab (Cw dec (by omega)) ?_;simp;refine Ak As rfl (by simp) rfl (by simp) (by simp) (by first | (simp;done)|(simp;omega)) (by simp[AR,AL]) ?_;simp;have hcc:=hC1;by_cases hk2:r1.code=2
           · simp only[Ew,Cf,AO,D7,hpf,hk2,if_true,if_false] at hcc;refine Ac (hcc) [5] [0,1] (by simp) ?_;simp[hk2,show IntKind.i64.wrap 1=1 from rfl,show IntKind.i64.wrap 2=2 from rfl];exact Ae hI2 hS2 hμ2 1 (.inr (.inl ⟨rfl,hk2⟩)) (by simp) ⟨[0,1,2,6],by simp⟩
           · have hRe:=hR1 hk2;subst hRe;have hk3:(R.code != 2)=true:=by simpa using hk2
             by_cases hk1:R.code=1
             · simp only[Ew,Cf,AO,BJ,hpf,hk2,hk1,if_true,if_false] at hcc;simp only[show ((1:Int)=2)=False by simp,if_false] at hcc;refine Ac (hcc) [5] [0,1] (by simp) ?_;simp[hk2,hk3,hk1];exact⟨[0,1],by simp[AO,BJ,hpf,hk2,hk1]⟩
             · simp only[Ew,Cf,AO,BJ,hpf,hk2,hk1,if_true,if_false] at hcc;refine Ac (hcc) [5] [0,1] (by simp) ?_;simp[hk2,hk3,hk1];exact⟨[0,1],by simp[AO,BJ,hpf,hk2,hk1]⟩
         · have hpn:=hp1 hc1;simp;refine Ab (Cw dec (by omega)) ?_;simp;refine Ak As rfl (by simp) rfl (by simp) (by simp) (by first | (simp;done)|(simp;omega)) (by simp[AR,AL]) ?_;simp;have hcc:=hC2 hc1;by_cases hk2:r2.code=2
           · simp only[Ew,Cf,AO,D7,hpn,hk2,if_true,if_false] at hcc;refine Ac (hcc) [6] [0,3] (by simp) ?_;simp[hk2,show IntKind.i64.wrap 1=1 from rfl,show IntKind.i64.wrap 2=2 from rfl];exact Ae hI2 hS2 hμ2 2 (.inr (.inr ⟨rfl,hc1,hk2⟩)) (by simp) ⟨[0,1,2,7],by simp⟩
           · have hRe:=hR2 hc1 hk2;subst hRe;have hk3:(R.code != 2)=true:=by simpa using hk2
             by_cases hk1:R.code=1
             · simp only[Ew,Cf,AO,BJ,hpn,hk2,hk1,if_true,if_false] at hcc;simp only[show ((1:Int)=2)=False by simp,if_false] at hcc;refine Ac (hcc) [6] [0,3] (by simp) ?_;simp[hk2,hk3,hk1];exact⟨[0,1],by simp[AO,BJ,hpf,hk2,hk1]⟩
             · simp only[Ew,Cf,AO,BJ,hpn,hk2,hk1,if_true,if_false] at hcc;refine Ac (hcc) [6] [0,3] (by simp) ?_;simp[hk2,hk3,hk1];exact⟨[0,1],by simp[AO,BJ,hpf,hk2,hk1]⟩
         · obtain⟨hp3,hp4⟩:=hp2 hc1 hc2;have hRe:=hR3 hc1 hc2;subst hRe;simp;refine Av [(8,[0]),(9,[]),(10,[]),(11,[])] (by kernel_rfl) ?_;simp;refine Ab (DF dec (by omega) hdb) ?_;simp
           first | refine Bs (q:=1) AM (by exact rfl) (by simp) (by exact rfl) (by exact rfl) (by simp) (by simp) (by first | (simp;done)|(simp;omega)) ?_|refine Br AM (by exact rfl) (by simp) (by exact rfl) (by simp) (by first | (simp;done)|(simp;omega)) ?_
           simp;exact⟨[0,1,6],by simp[AO,D7,hpf,Az,e1]⟩
     · have hse:Dg par l=par.set m (-1):=by rw[e];exact Ef par m
       rw[hse] at hR hol hot;rw[hp] at hol;have hg:=getD_some (p:=par) (m:=m) (by omega);have w3:IntKind.i64.wrap (-l)=(m:Int)+1:=by rw[Ad (by omega) (by omega)];omega
       have w4:IntKind.i64.wrap (m:Int)=(m:Int):=Ad (by omega) (by omega);have hset:=El (q:=par) (m:=m) (v:=-1);generalize par.set m (-1)=own at *;generalize par.getD m 0=z0 at hg;simp[hd1,hd2,hd3,wd,show ¬ 0<l by omega,show l≤0 by omega,w4,  w3,hg,hset];have hP:=Hg cls own _ rfl hc (by omega) hot (by rw[hol];exact hcl);have hPf:=fun q=>C2 (cls:=cls) (p:=own) (p':=q) (by rw[hol];exact hcl) hot;generalize ET cls own=Rq at *;refine Ab (hP) ?_;simp
       cases Rq with
       | none =>
         simp only at hR;subst hR;simp;refine Av [(8,[0]),(9,[]),(10,[]),(11,[])] (by kernel_rfl) ?_;simp;refine Ab (DF dec (by omega) hdb) ?_;simp
         first | refine Bs (q:=1) AM (by exact rfl) (by simp) (by exact rfl) (by exact rfl) (by simp) (by simp) (by first | (simp;done)|(simp;omega)) ?_|refine Br AM (by exact rfl) (by simp) (by exact rfl) (by simp) (by first | (simp;done)|(simp;omega)) ?_
         simp;exact⟨[0,1,6],by simp[AO,D7,hpf,Az,e1]⟩
       | some q =>
         obtain⟨hql,hqt,-⟩:=hPf q rfl;rw[hol] at hql;have hzl:=D3 q;have hz0:=DJ (q:=q)
         replace hR:GO S (left - 1) dec pf q=R:=hR
         simp;refine AB [true,true,false,false,false,false,false,false,false,true,false,true] (fun i:Nat=>i≤q.length∧Am (q.drop i)+i=Am q) (fun i:Nat=>[(11,.d (.int .i64 i))]) (fun i:Nat=>[]) (fun i:Nat=>q.length - i) 0 ?_ ?_ ?_
         · exact⟨by omega,by simp⟩
         · exact⟨[0,1,2,3],by simp⟩
         rintro I Z μ hI hS hμ i ⟨hi,hzi⟩;by_cases hend:i=Am q
         case neg =>
          have hlt:i<q.length:=by
           rcases Nat.lt_or_ge i q.length with h|h
           · exact h
           · rw[List.drop_eq_nil_of_le h,Am] at hzi;omega
          have hx1:q[i]? = some q[i]:=zz0 hlt;rw[FB hx1] at hzi;generalize q[i]=y at *;by_cases hy:y=0
          · rw[if_pos hy] at hzi;omega
          rw[if_neg hy] at hzi;have w5:IntKind.i64.wrap ((i:Int)+1)=(i:Int)+1:=Ad (by omega) (by omega);simp[zz2 hlt,hx1,hy,show (y != 0)=true by simpa using hy,w5];exact Ae hI hS hμ (i+1) ⟨by omega,by omega⟩ (by omega) ⟨[0,1,2,3],by simp⟩
         subst hend;clear hzi;by_cases hfull:Am q=q.length
         · have hRf:=DP hR hfull;clear hR;subst hRf;have hlt:¬ Am q<q.length:=by omega
           simp[hlt,zz3 hlt,hfull];exact⟨[0,1],by simp[AO,BJ,hpf]⟩
         obtain⟨r1,r2,hC1,hC2,hR1,hR2,hR3,hp1,hp2⟩:=GJ hv ih hF hR hfull hql hqt (by omega) (by omega) hdl hdk (by omega) hpc;clear hR ih hF;have hlt:Am q<q.length:=by omega
         have hx0:=hz0 hlt;clear hz0;generalize Am q=z at *;have wz:IntKind.i64.wrap ((z:Int)+1)=(z:Int)+1:=Ad (by omega) (by omega);have wn:IntKind.i64.wrap (-((z:Int)+1))=-((z:Int)+1):=Ad (by omega) (by omega);have hzn:¬ z=q.length:=hfull;have hzf:((z:Int)==(q.length:Int))=false:=beq_false_of_ne (fun h=>hzn (Int.ofNat.inj h));have hzg:(z==q.length)=false:=beq_false_of_ne hzn;simp[zz2 hlt,hx0,wz,wn,hzn,hzf,hzg];refine AH [true,true,false,false,false,false,false,false,false,true,false,false,false,false,false,false,false,false,false,false,false,false,false,false,false,false,false,false,false,false,false,false,false,false,false,false,false,false,false,false,false,false,false,false,false,false,false,false,false,false,false,false,false,false,false,false,false,false,false,false,false,false,false,false,false,false,false,false,false,false,false,false,false,false,false,false,false,false,false,false,false,false,false,false,false,false,false,false,false,false,true,true,true] (fun i:Nat=>i=0∨(i=1∧r1.code=2)∨(i=2∧r1.code=2∧r2.code=2)) (fun i:Nat=>[(9,.d (.sl 3 (q.map (e1 AC)))),(90,.ref 2),(91,.d (.int .i64 2)),(92,.d (.int .i64 i))]) (fun i:Nat=>fun _=>if i=0 then [G8 v cls B (.d (.int .i64 (B - (left - 1:Nat)))) (.ref 1) .any,.arr 26 true (pf.map Az),.arr 3 true [[.int .i64 (-((z:Int)+1))],[.int .i64 ((z:Int)+1)]]] else if i=1 then [G8 v cls B (.d (.int .i64 (B - (r1.left:Nat)))) (.ref 3) .any,.dead,.arr 3 true [[.int .i64 (-((z:Int)+1))],[.int .i64 ((z:Int)+1)]],.arr 26 true (r1.pf.map Az)] else [G8 v cls B (.d (.int .i64 (B - (r2.left:Nat)))) (.ref 3) .any,.dead,.arr 3 true [[.int .i64 (-((z:Int)+1))],[.int .i64 ((z:Int)+1)]],.arr 26 true (r2.pf.map Az)]) (fun i:Nat=>2 - i) 0 ?_ ?_ ?_
         · simp
         · exact⟨[0,1,4],by simp⟩
         rintro I2 Z2 μ2 hI2 hS2 hμ2 i (rfl|⟨rfl,hc1⟩|⟨rfl,hc1,hc2⟩)
         · simp;refine Ab (Cw dec (by omega)) ?_;simp;refine Ak As rfl (by simp) rfl (by simp) (by simp) (by first | (simp;done)|(simp;omega)) (by simp[AR,AL]) ?_;simp;have hcc:=hC1;by_cases hk2:r1.code=2
           · simp only[Ew,Cf,AO,D7,hpf,hk2,if_true,if_false] at hcc;refine Ac (hcc) [5] [0,1] (by simp) ?_;simp[hk2,show IntKind.i64.wrap 1=1 from rfl,show IntKind.i64.wrap 2=2 from rfl];exact Ae hI2 hS2 hμ2 1 (.inr (.inl ⟨rfl,hk2⟩)) (by simp) ⟨[0,1,2,6],by simp⟩
           · have hRe:=hR1 hk2;subst hRe;have hk3:(R.code != 2)=true:=by simpa using hk2
             by_cases hk1:R.code=1
             · simp only[Ew,Cf,AO,BJ,hpf,hk2,hk1,if_true,if_false] at hcc;simp only[show ((1:Int)=2)=False by simp,if_false] at hcc;refine Ac (hcc) [5] [0,1] (by simp) ?_;simp[hk2,hk3,hk1];exact⟨[0,1],by simp[AO,BJ,hpf,hk2,hk1]⟩
             · simp only[Ew,Cf,AO,BJ,hpf,hk2,hk1,if_true,if_false] at hcc;refine Ac (hcc) [5] [0,1] (by simp) ?_;simp[hk2,hk3,hk1];exact⟨[0,1],by simp[AO,BJ,hpf,hk2,hk1]⟩
         · have hpn:=hp1 hc1;simp;refine Ab (Cw dec (by omega)) ?_;simp;refine Ak As rfl (by simp) rfl (by simp) (by simp) (by first | (simp;done)|(simp;omega)) (by simp[AR,AL]) ?_;simp;have hcc:=hC2 hc1;by_cases hk2:r2.code=2
           · simp only[Ew,Cf,AO,D7,hpn,hk2,if_true,if_false] at hcc;refine Ac (hcc) [6] [0,3] (by simp) ?_;simp[hk2,show IntKind.i64.wrap 1=1 from rfl,show IntKind.i64.wrap 2=2 from rfl];exact Ae hI2 hS2 hμ2 2 (.inr (.inr ⟨rfl,hc1,hk2⟩)) (by simp) ⟨[0,1,2,7],by simp⟩
           · have hRe:=hR2 hc1 hk2;subst hRe;have hk3:(R.code != 2)=true:=by simpa using hk2
             by_cases hk1:R.code=1
             · simp only[Ew,Cf,AO,BJ,hpn,hk2,hk1,if_true,if_false] at hcc;simp only[show ((1:Int)=2)=False by simp,if_false] at hcc;refine Ac (hcc) [6] [0,3] (by simp) ?_;simp[hk2,hk3,hk1];exact⟨[0,1],by simp[AO,BJ,hpf,hk2,hk1]⟩
             · simp only[Ew,Cf,AO,BJ,hpn,hk2,hk1,if_true,if_false] at hcc;refine Ac (hcc) [6] [0,3] (by simp) ?_;simp[hk2,hk3,hk1];exact⟨[0,1],by simp[AO,BJ,hpf,hk2,hk1]⟩
         · obtain⟨hp3,hp4⟩:=hp2 hc1 hc2;have hRe:=hR3 hc1 hc2;subst hRe;simp;refine Av [(8,[0]),(9,[]),(10,[]),(11,[])] (by kernel_rfl) ?_;simp;refine Ab (DF dec (by omega) hdb) ?_;simp
           first | refine Bs (q:=1) AM (by exact rfl) (by simp) (by exact rfl) (by exact rfl) (by simp) (by simp) (by first | (simp;done)|(simp;omega)) ?_|refine Br AM (by exact rfl) (by simp) (by exact rfl) (by simp) (by first | (simp;done)|(simp;omega)) ?_
           simp;exact⟨[0,1,6],by simp[AO,D7,hpf,Az,e1]⟩
end Go.Proofs.YtnjedabjbeipeaaGreat
