/-
  The search for a satisfying assignment as data; its walk on both sides.
  Conditions: those typed in each theorem.
-/
import Derived.Test.YtnjedabjbeipeaaQe
namespace Go.Proofs.Ytnjedabjbeipeaa
open Go.RowKit Go.ChangeShapes Go.WideShapes
set_option linter.unusedSimpArgs false
set_option linter.unusedVariables false
set_option maxRecDepth 100000
set_option maxHeartbeats 10000000
structure Js where
 code:Int
 left:Nat
 pf:List BB
 model:List Int
def DZ (dec:List Int):List Int:=dec.map fun l=>-l
def Am:List Int→Nat
 | []=>0
 | x::xs=>if x=0 then 0 else Am xs+1
def HA (S:Nat→List Int→List Int→List BB→Js) (left:Nat) (dec:List Int) (pf:List BB) (q:List Int):Js :=
 if Am q=q.length then ⟨1,left,pf,q⟩ else
 let r1:=S left (q.set (Am q) (-1)) (dec++[-((Am q:Int)+1)]) pf
 if r1.code≠2 then r1 else
 let r2:=S r1.left (q.set (Am q) 1) (dec++[(Am q:Int)+1]) r1.pf
 if r2.code≠2 then r2 else ⟨2,r2.left,r2.pf++[DZ dec],[]⟩
def C2 (cls:List BB):Nat→Nat→List Int→List Int→List BB→Js
 | 0,left,p,dec,pf=>⟨3,left,pf,[]⟩
 | k+1,left,p,dec,pf=>if left=0 then ⟨3,left,pf,[]⟩ else
   match En cls p with
   | none=>⟨2,left - 1,pf++[DZ dec],[]⟩
   | some q=>HA (C2 cls k) (left - 1) dec pf q
theorem EL:∀ q:List Int,Am q≤q.length
 | []=>Nat.le_refl _
 | x::xs=>by
   have:=EL xs;unfold Am;split
   · exact Nat.zero_le _
   · simp;omega
theorem Ha {q:List Int} {k:Nat} {x:Int} (hx:q[k]? = some x):Am (q.drop k)=if x=0 then 0 else Am (q.drop (k+1))+1:=by
 obtain⟨hk,rfl⟩:=zz1.1 hx;rw[List.drop_eq_getElem_cons hk,Am]
theorem EA {q:List Int} (h:Am q<q.length):q[Am q]? = some 0:=by
 induction q with
 | nil=>simp at h
 | cons x xs ih =>
   by_cases hx:x=0
   · simp[Am,hx]
   · simp only[Am,if_neg hx,List.length_cons] at h ⊢;simpa using ih (by omega)
theorem F0 {cls:List BB} {v:Nat} (hc:BK v cls):∀ (k left:Nat) (p dec:List Int) (pf:List BB),p.length=v→Cj p →
 (C2 cls k left p dec pf).left≤left∧((C2 cls k left p dec pf).code=1∨(C2 cls k left p dec pf).code=2∨(C2 cls k left p dec pf).code=3) ∧
 ((C2 cls k left p dec pf).code=2→(C2 cls k left p dec pf).pf.length+(C2 cls k left p dec pf).left≤pf.length+left∧0<(C2 cls k left p dec pf).pf.length∧((∀ c∈pf,c.length≤1048576)→dec.length+k≤1048576→∀ c∈(C2 cls k left p dec pf).pf,c.length≤1048576)) ∧
 ((C2 cls k left p dec pf).code=1→(C2 cls k left p dec pf).model.length=v∧Cj (C2 cls k left p dec pf).model)
 | 0,left,p,dec,pf,hp,ht=>by simp[C2]
 | k+1,left,p,dec,pf,hp,ht=>by
   have ih:=F0 hc k;unfold C2;by_cases h0:left=0
   · simp[h0]
   rw[if_neg h0]
   cases hq:En cls p with
   | none =>
     simp only;refine⟨by omega,by simp,fun _=>⟨by simp;omega,by simp,fun h1 h2 c hcm=>?_⟩,by simp⟩;rcases ACE.1 hcm with h|h
     · exact h1 c h
     · rw[zz9.1 h];simp[DZ];omega
   | some q =>
     obtain⟨f1,f2,f3⟩:=CZ (by rw[hp];exact hc) ht hq;simp only;unfold HA;by_cases hz:Am q=q.length
     · rw[if_pos hz];simp only;exact⟨by omega,by simp,by simp,fun _=>⟨by omega,f2⟩⟩
     rw[if_neg hz];have a1:=ih (left - 1) (q.set (Am q) (-1)) (dec++[-((Am q:Int)+1)]) pf (by simp;omega) (D3 f2 _ (by omega));generalize C2 cls k (left - 1) (q.set (Am q) (-1)) (dec++[-((Am q:Int)+1)]) pf=r1 at *;obtain⟨a,b,c,d⟩:=a1;by_cases h1:r1.code≠2
     · rw[if_pos h1];exact⟨by omega,b,fun h=>absurd h h1,d⟩
     rw[if_neg h1];obtain⟨c1,c2,c3⟩:=c (by simpa using h1);have a2:=ih r1.left (q.set (Am q) 1) (dec++[(Am q:Int)+1]) r1.pf (by simp;omega) (D3 f2 _ (by omega));generalize C2 cls k r1.left (q.set (Am q) 1) (dec++[(Am q:Int)+1]) r1.pf=r2 at *;obtain⟨a',b',c',d'⟩:=a2;by_cases h2:r2.code≠2
     · rw[if_pos h2];exact⟨by omega,b',fun h=>absurd h h2,d'⟩
     rw[if_neg h2];obtain⟨e1,e2,e3⟩:=c' (by simpa using h2);simp only;refine⟨by omega,by simp,fun _=>⟨?_,by simp,fun g1 g2 c hcm=>?_⟩,by simp⟩
     · simp only[ACg,List.length_singleton];omega
     · rcases ACE.1 hcm with h|h
       · exact e3 (c3 g1 (by simp;omega)) (by simp;omega) c h
       · rw[zz9.1 h];simp[DZ];omega
theorem Dq (xs:List Int) (h:xs.length≤1048576) (hb:∀ x∈xs,-1048576≤x∧x≤1048576):CI Try.prog 152 [ints xs] (ints (DZ xs)):=by
 refine BD (by kernel_rfl) Try.func152 rfl rfl rfl ?_;simp;refine As [false,false,false,true,false,false,true,true,true] (fun k:Nat=>k≤xs.length) (fun k:Nat=>[(3,D9 k 0),(8,.d (.int .i64 k))]) (fun k:Nat=>Ea k (DZ (xs.take k))) (fun k:Nat=>xs.length - k) 0 ?_ ?_ ?_
 · simp
 · exact⟨[],by simp[D9,Ea]⟩
 rintro I S μ hI hS hμ k hk;by_cases hlt:k<xs.length
 · have hx1:xs[k]? = some xs[k]:=zz0 hlt;have w2:IntKind.i64.wrap ((k:Int)+1)=(k:Int)+1:=Af (by omega) (by omega);have hd:decide (k<xs.length)=true:=zz2 hlt;have hx:=hb _ (AB7 hlt);have hn:DZ (xs.take (k+1))=DZ (xs.take k)++[-xs[k]]:=by unfold DZ;rw[Bh hx1,ACX];rfl
   have hl:(DZ (xs.take k)).length=k:=by unfold DZ;simp;omega
   generalize xs[k]=x at *;have w3:IntKind.i64.wrap (-x)=-x:=Af (by omega) (by omega);generalize DZ (xs.take k)=ms at *;by_cases hk0:k=0
   · subst hk0;have hm:ms=[]:=zz7 hl;subst hm;simp[D9,Ea,hd,hx1,w3];refine Aw AX rfl (by simp) rfl (by simp) (by simp) (by first | (simp;done)|(simp;omega)) (by simp[Bp,A4]) ?_;simp[w2,show IntKind.i64.wrap 1=1 from rfl];exact Ae hI hS hμ 1 (by omega) (by omega) ⟨[1],by simp[D9,Ea,hn,e1,Az]⟩
   · simp[D9,Ea,hd,hx1,hk0,w3];refine Aw AX rfl (by simp) rfl (by simp) (by simp) (by first | (simp;done)|(simp;omega)) (by simp[Bp,A4]) ?_;simp[w2];exact Ae hI hS hμ (k+1) (by omega) (by omega) ⟨[2],by simp[D9,Ea,hn,e1,Az]⟩
 · have hk':k=xs.length:=by omega
   subst hk';have hd:decide (xs.length<xs.length)=false:=by simp
   rw[List.take_length];have hl:(DZ xs).length=xs.length:=by unfold DZ;simp
   generalize DZ xs=ms at *;by_cases hk0:xs.length=0
   · have hm:ms=[]:=zz7 (by omega);subst hm;simp[D9,Ea,hd,hk0,hlt]
   · simp[D9,Ea,hd,hlt,hk0]
theorem E8 {S:Nat→List Int→List Int→List BB→Js} {left:Nat} {dec:List Int} {pf:List BB} {q:List Int} {R:Js} (h:HA S left dec pf q=R) (hz:Am q=q.length):R=⟨1,left,pf,q⟩:=by
 unfold HA at h;rw[if_pos hz] at h;exact h.symm
theorem Mx {S:Nat→List Int→List Int→List BB→Js} {left:Nat} {dec:List Int} {pf:List BB} {q:List Int} {R:Js} (h:HA S left dec pf q=R) (hz:¬ Am q=q.length) :
 ((S left (q.set (Am q) (-1)) (dec++[-((Am q:Int)+1)]) pf).code≠2→R=S left (q.set (Am q) (-1)) (dec++[-((Am q:Int)+1)]) pf) ∧
 ((S left (q.set (Am q) (-1)) (dec++[-((Am q:Int)+1)]) pf).code=2→∀ r2,S (S left (q.set (Am q) (-1)) (dec++[-((Am q:Int)+1)]) pf).left (q.set (Am q) 1) (dec++[(Am q:Int)+1]) (S left (q.set (Am q) (-1)) (dec++[-((Am q:Int)+1)]) pf).pf=r2→(r2.code≠2→R=r2)∧(r2.code=2→R=⟨2,r2.left,r2.pf++[DZ dec],[]⟩)):=by
 unfold HA at h;rw[if_neg hz] at h;constructor
 · intro h1;simp only[if_pos h1] at h;exact h.symm
 · rintro h1 r2 rfl;simp only[h1,ne_eq,not_true_eq_false,if_false] at h;constructor
   · intro h2;rw[if_pos h2] at h;exact h.symm
   · intro h2;rw[if_neg (by simp[h2])] at h;exact h.symm
def oD (v:Nat) (par dec own:List Int):Prop:=(dec=[]∧own=par)∨∃ d0 l,dec=d0++[l]∧Cu v l∧own=Co par l
abbrev G4 (v:Nat) (cls:List BB) (B:Int) (u p f:V):Ag:=.var 127 [.d (.int .i64 v),.d (B3 26 Aq cls),.d (.int .i64 B),u,p,f]
def B4 (v:Nat) (cls:List BB) (B:Int) (left:Nat) (pf:List BB):List Ag :=
 if pf=[] then [G4 v cls B (.d (.int .i64 (B - left))) (.nil 26) .any] else [G4 v cls B (.d (.int .i64 (B - left))) (.ref 1) .any,.arr 26 true (pf.map Aq)]
def DN (v:Nat) (cls:List BB) (B:Int) (pf:List BB) (r:Js):List Ag :=
 if pf=[] then [G4 v cls B (.d (.int .i64 (B - r.left))) (.ref 1) .any,.arr 26 true (r.pf.map Aq)] else [G4 v cls B (.d (.int .i64 (B - r.left))) (.ref 2) .any,.dead,.arr 26 true (r.pf.map Aq)]
def Bs (v:Nat) (cls:List BB) (B:Int) (pf:List BB) (r:Js):List Ag :=
 if pf=[] then [G4 v cls B .any .any (if r.code=1 then .d (B3 3 (e1 Az) r.model) else .any)] else [G4 v cls B .any .any (if r.code=1 then .d (B3 3 (e1 Az) r.model) else .any),.dead]
def AA (v:Nat) (cls:List BB) (B:Int) (pf:List BB) (r:Js):List Ag:=if r.code=2 then DN v cls B pf r else Bs v cls B pf r
theorem PD {v:Nat} {cls:List BB} {B:Int} {left:Nat} {pf:List BB} {r:Js}:AZ (B4 v cls B left pf) (AA v cls B pf r):=by
 unfold B4 AA DN Bs;by_cases h:pf=[]<;>by_cases h2:r.code=2<;>simp[h,h2,AZ,Later]
theorem Sg {v:Nat} {cls:List BB} {B:Int} {left:Nat} {pf:List BB}:Bi (B4 v cls B left pf):=by
 unfold B4;by_cases h:pf=[]<;>simp[h,Bi,Ag.live]
def Ec (v:Nat) (cls:List BB) (B:Int) (left:Nat) (par dec:List Int) (pf:List BB) (r:Js):Prop :=
 BS Try.prog 127 [.ptr 0 0,.d (B3 3 (e1 Az) dec),.d (B3 3 (e1 Az) par)] (B4 v cls B left pf) (.d (.int .i64 r.code)) (AA v cls B pf r)
theorem IB {T:Nat→List Int→List Int→List BB→Js→Prop} {S:Nat→List Int→List Int→List BB→Js} {v:Nat} {B:Int} {k left:Nat} {dec q:List Int} {pf:List BB} {R:Js} (hv:v≤400)
 (ih:∀ (left:Nat) (par dec own:List Int) (pf:List BB),left≤k→(left:Int)≤B→par.length=v→Cj par→oD v par dec own→(∀ x∈dec,Cu v x)→dec.length+k≤1048576→pf.length+left≤600→(∀ c∈pf,c.length≤1048576)→T left par dec pf (S left own dec pf))
 (hF:∀ (left:Nat) (p dec:List Int) (pf:List BB),p.length=v→Cj p→(S left p dec pf).left≤left∧((S left p dec pf).code=1∨(S left p dec pf).code=2∨(S left p dec pf).code=3) ∧
   ((S left p dec pf).code=2→(S left p dec pf).pf.length+(S left p dec pf).left≤pf.length+left∧0<(S left p dec pf).pf.length∧((∀ c∈pf,c.length≤1048576)→dec.length+k≤1048576→∀ c∈(S left p dec pf).pf,c.length≤1048576)) ∧
   ((S left p dec pf).code=1→(S left p dec pf).model.length=v∧Cj (S left p dec pf).model))
 (hR:HA S left dec pf q=R) (hz:¬ Am q=q.length) (hql:q.length=v) (hqt:Cj q) (h1:left≤k) (h2:(left:Int)≤B) (hdl:∀ x∈dec,Cu v x) (hdk:dec.length+(k+1)≤1048576) (hpl:pf.length+left≤600) (hpc:∀ c∈pf,c.length≤1048576) :
 ∃ r1 r2:Js,T left q (dec++[-((Am q:Int)+1)]) pf r1∧(r1.code=2→T r1.left q (dec++[(Am q:Int)+1]) r1.pf r2)∧(r1.code≠2→R=r1)∧(r1.code=2→r2.code≠2→R=r2)∧(r1.code=2→r2.code=2→R=⟨2,r2.left,r2.pf++[DZ dec],[]⟩) ∧
   (r1.code=2→¬ r1.pf=[])∧(r1.code=2→r2.code=2→¬ r2.pf=[]∧r2.pf.length≤600):=by
 have hz2:=EL q;obtain⟨a,b⟩:=Mx hR hz;have hF1:=hF left (q.set (Am q) (-1)) (dec++[-((Am q:Int)+1)]) pf (by simp;omega) (D3 hqt _ (by omega))
 have hC1:=ih left q (dec++[-((Am q:Int)+1)]) (q.set (Am q) (-1)) pf h1 h2 hql hqt (.inr ⟨dec,_,rfl,⟨by omega,by omega,by omega⟩,(Da q _).symm⟩) (fun x hx=>by
  rcases ACE.1 hx with h|h
  · exact hdl x h
  · rw[zz9.1 h];exact⟨by omega,by omega,by omega⟩) (by simp;omega) hpl hpc
 generalize S left (q.set (Am q) (-1)) (dec++[-((Am q:Int)+1)]) pf=r1 at *;obtain⟨f1,f2,f3,f4⟩:=hF1;have hF2:=hF r1.left (q.set (Am q) 1) (dec++[(Am q:Int)+1]) r1.pf (by simp;omega) (D3 hqt _ (by omega))
 have hC2:r1.code=2→_:=fun hc=>ih r1.left q (dec++[(Am q:Int)+1]) (q.set (Am q) 1) r1.pf (by omega) (by omega) hql hqt (.inr ⟨dec,_,rfl,⟨by omega,by omega,by omega⟩,(Em q _).symm⟩) (fun x hx=>by
  rcases ACE.1 hx with h|h
  · exact hdl x h
  · rw[zz9.1 h];exact⟨by omega,by omega,by omega⟩) (by simp;omega) (by have:=(f3 hc).1;omega) ((f3 hc).2.2 hpc (by simp;omega))
 have b2:=fun h=>b h _ rfl;clear b;generalize S r1.left (q.set (Am q) 1) (dec++[(Am q:Int)+1]) r1.pf=r2 at *;obtain⟨g1,g2,g3,g4⟩:=hF2;refine⟨r1,r2,hC1,hC2,a,fun h=>(b2 h).1,fun h=>(b2 h).2,fun h h'=>?_,fun h h'=>⟨fun e=>?_,?_⟩⟩
 · have:=(f3 h).2.1;rw[h'] at this;simp at this
 · have:=(g3 h').2.1;rw[e] at this;simp at this
 · have:=(g3 h').1;have:=(f3 h).1;omega
theorem Uh (v:Nat) (cls:List BB) (B:Int) (hv:v≤400) (hB:B≤600) (hc:ID 1048576 cls) (hcl:BK v cls):∀ (k left:Nat) (par dec own:List Int) (pf:List BB),left≤k→(left:Int)≤B→par.length=v→Cj par→oD v par dec own→(∀ x∈dec,Cu v x)→dec.length+k≤1048576→pf.length+left≤600→(∀ c∈pf,c.length≤1048576) →
 Ec v cls B left par dec pf (C2 cls k left own dec pf):=by
 intro k
 induction k with
 | zero =>
   intro left par dec own pf h1 h2 hp ht hd hdl hdk hpl hpc;obtain rfl:left=0:=by omega
   refine Bl (by kernel_rfl) Try.func127 rfl rfl rfl PD Sg ?_;by_cases hpf:pf=[]
   · simp[B4,AA,Bs,C2,hpf];refine AJ 9 (by kernel_rfl) ?_;simp;exact⟨[0],by simp⟩
   · simp[B4,AA,Bs,C2,hpf];refine AJ 9 (by kernel_rfl) ?_;simp;exact⟨[0,1],by simp⟩
 | succ k ih =>
   intro left par dec own pf h1 h2 hp ht hd hdl hdk hpl hpc;have hR:C2 cls (k+1) left own dec pf=C2 cls (k+1) left own dec pf:=rfl
   conv at hR=>lhs;unfold C2
   have hF:=F0 hcl k;generalize C2 cls (k+1) left own dec pf=R at *;generalize C2 cls k=S at *;have hdb:∀ x∈dec,-1048576≤x∧x≤1048576:=fun x hx=>by have:=hdl x hx;unfold Cu at this;omega
   refine Bl (by kernel_rfl) Try.func127 rfl rfl rfl PD Sg ?_;by_cases hpf:pf=[]
   · simp[B4,hpf];refine AJ 9 (by kernel_rfl) ?_;simp;by_cases h0:left=0
     · rw[if_pos h0] at hR;subst hR h0;simp[AA,Bs,hpf];exact⟨[0],by simp⟩
     rw[if_neg h0] at hR;have wv:IntKind.i64.wrap (B - (left:Int)+1)=B - ((left - 1:Nat):Int):=by rw[Af (by omega) (by omega)];omega
     simp[show ¬ B≤B - (left:Int) by omega,show B - (left:Int)<B by omega,show (0:Int)<left by omega,h0,wv];refine Ab (Cm par (by omega)) ?_;simp;rcases hd with ⟨hd0,rfl⟩|⟨d0,l,hdec,hl,rfl⟩
     · have hdz:dec.length=0:=by rw[hd0];rfl
       clear hd0;have hol:=hp;have hot:=ht;simp[hdz];intro _;have hP:=FW cls own _ rfl hc (by omega) hot (by rw[hol];exact hcl);have hPf:=fun q=>CZ (cls:=cls) (p:=own) (p':=q) (by rw[hol];exact hcl) hot;generalize En cls own=Rq at *;refine Ab (hP) ?_;simp
       cases Rq with
       | none =>
         simp only at hR;subst hR;simp;refine AS [(8,[0]),(9,[]),(10,[]),(11,[])] (by kernel_rfl) ?_;simp;refine Ab (Dq dec (by omega) hdb) ?_;simp
         first | refine BT (q:=1) AK (by exact rfl) (by simp) (by exact rfl) (by exact rfl) (by simp) (by simp) (by first | (simp;done)|(simp;omega)) ?_|refine BU AK (by exact rfl) (by simp) (by exact rfl) (by simp) (by first | (simp;done)|(simp;omega)) ?_
         simp;exact⟨[0,5],by simp[AA,DN,hpf,Aq,e1]⟩
       | some q =>
         obtain⟨hql,hqt,-⟩:=hPf q rfl;rw[hol] at hql;have hzl:=EL q;have hz0:=EA (q:=q)
         replace hR:HA S (left - 1) dec pf q=R:=hR
         simp;refine AY [true,true,false,false,false,false,false,false,false,true,false,true] (fun i:Nat=>i≤q.length∧Am (q.drop i)+i=Am q) (fun i:Nat=>[(11,.d (.int .i64 i))]) (fun i:Nat=>[]) (fun i:Nat=>q.length - i) 0 ?_ ?_ ?_
         · exact⟨by omega,by simp⟩
         · exact⟨[0,1,2],by simp⟩
         rintro I Z μ hI hS hμ i ⟨hi,hzi⟩;by_cases hend:i=Am q
         case neg =>
          have hlt:i<q.length:=by
           rcases Nat.lt_or_ge i q.length with h|h
           · exact h
           · rw[List.drop_eq_nil_of_le h,Am] at hzi;omega
          have hx1:q[i]? = some q[i]:=zz0 hlt;rw[Ha hx1] at hzi;generalize q[i]=y at *;by_cases hy:y=0
          · rw[if_pos hy] at hzi;omega
          rw[if_neg hy] at hzi;have w5:IntKind.i64.wrap ((i:Int)+1)=(i:Int)+1:=Af (by omega) (by omega);simp[zz2 hlt,hx1,hy,show (y != 0)=true by simpa using hy,w5];exact Ae hI hS hμ (i+1) ⟨by omega,by omega⟩ (by omega) ⟨[0,1,2],by simp⟩
         subst hend;clear hzi;by_cases hfull:Am q=q.length
         · have hRf:=E8 hR hfull;clear hR;subst hRf;have hlt:¬ Am q<q.length:=by omega
           simp[hlt,zz3 hlt,hfull];exact⟨[0],by simp[AA,Bs,hpf]⟩
         obtain⟨r1,r2,hC1,hC2,hR1,hR2,hR3,hp1,hp2⟩:=IB hv ih hF hR hfull hql hqt (by omega) (by omega) hdl hdk (by omega) hpc;clear hR ih hF;have hlt:Am q<q.length:=by omega
         have hx0:=hz0 hlt;clear hz0;generalize Am q=z at *;have wz:IntKind.i64.wrap ((z:Int)+1)=(z:Int)+1:=Af (by omega) (by omega);have wn:IntKind.i64.wrap (-((z:Int)+1))=-((z:Int)+1):=Af (by omega) (by omega);have hzn:¬ z=q.length:=hfull;have hzf:((z:Int)==(q.length:Int))=false:=beq_false_of_ne (fun h=>hzn (Int.ofNat.inj h));have hzg:(z==q.length)=false:=beq_false_of_ne hzn;simp[zz2 hlt,hx0,wz,wn,hzn,hzf,hzg];refine As [true,true,false,false,false,false,false,false,false,true,false,false,false,false,false,false,false,false,false,false,false,false,false,false,false,false,false,false,false,false,false,false,false,false,false,false,false,false,false,false,false,false,false,false,false,false,false,false,false,false,false,false,false,false,false,false,false,false,false,false,false,false,false,false,false,false,false,false,false,false,false,false,false,false,false,false,false,false,false,false,false,false,false,false,false,false,false,false,false,false,true,true,true] (fun i:Nat=>i=0∨(i=1∧r1.code=2)∨(i=2∧r1.code=2∧r2.code=2)) (fun i:Nat=>[(9,.d (.sl 3 (q.map (e1 Az)))),(90,.ref 1),(91,.d (.int .i64 2)),(92,.d (.int .i64 i))]) (fun i:Nat=>fun _=>if i=0 then [G4 v cls B (.d (.int .i64 (B - (left - 1:Nat)))) (.nil 26) .any,.arr 3 true [[.int .i64 (-((z:Int)+1))],[.int .i64 ((z:Int)+1)]]] else if i=1 then [G4 v cls B (.d (.int .i64 (B - (r1.left:Nat)))) (.ref 2) .any,.arr 3 true [[.int .i64 (-((z:Int)+1))],[.int .i64 ((z:Int)+1)]],.arr 26 true (r1.pf.map Aq)] else [G4 v cls B (.d (.int .i64 (B - (r2.left:Nat)))) (.ref 2) .any,.arr 3 true [[.int .i64 (-((z:Int)+1))],[.int .i64 ((z:Int)+1)]],.arr 26 true (r2.pf.map Aq)]) (fun i:Nat=>2 - i) 0 ?_ ?_ ?_
         · simp
         · exact⟨[0,3],by simp⟩
         rintro I2 Z2 μ2 hI2 hS2 hμ2 i (rfl|⟨rfl,hc1⟩|⟨rfl,hc1,hc2⟩)
         · simp;refine Ab (Cm dec (by omega)) ?_;simp;refine Aw AX rfl (by simp) rfl (by simp) (by simp) (by first | (simp;done)|(simp;omega)) (by simp[Bp,A4]) ?_;simp;have hcc:=hC1;by_cases hk2:r1.code=2
           · simp only[Ec,B4,AA,DN,hpf,hk2,if_true,if_false] at hcc;refine Ac (hcc) [4] [0] (by simp) ?_;simp[hk2,show IntKind.i64.wrap 1=1 from rfl,show IntKind.i64.wrap 2=2 from rfl];exact Ae hI2 hS2 hμ2 1 (.inr (.inl ⟨rfl,hk2⟩)) (by simp) ⟨[0,1,5],by simp⟩
           · have hRe:=hR1 hk2;subst hRe;have hk3:(R.code != 2)=true:=by simpa using hk2
             by_cases hk1:R.code=1
             · simp only[Ec,B4,AA,Bs,hpf,hk2,hk1,if_true,if_false] at hcc;simp only[show ((1:Int)=2)=False by simp,if_false] at hcc;refine Ac (hcc) [4] [0] (by simp) ?_;simp[hk2,hk3,hk1];exact⟨[0],by simp[AA,Bs,hpf,hk2,hk1]⟩
             · simp only[Ec,B4,AA,Bs,hpf,hk2,hk1,if_true,if_false] at hcc;refine Ac (hcc) [4] [0] (by simp) ?_;simp[hk2,hk3,hk1];exact⟨[0],by simp[AA,Bs,hpf,hk2,hk1]⟩
         · have hpn:=hp1 hc1;simp;refine Ab (Cm dec (by omega)) ?_;simp;refine Aw AX rfl (by simp) rfl (by simp) (by simp) (by first | (simp;done)|(simp;omega)) (by simp[Bp,A4]) ?_;simp;have hcc:=hC2 hc1;by_cases hk2:r2.code=2
           · simp only[Ec,B4,AA,DN,hpn,hk2,if_true,if_false] at hcc;refine Ac (hcc) [5] [0,2] (by simp) ?_;simp[hk2,show IntKind.i64.wrap 1=1 from rfl,show IntKind.i64.wrap 2=2 from rfl];exact Ae hI2 hS2 hμ2 2 (.inr (.inr ⟨rfl,hc1,hk2⟩)) (by simp) ⟨[0,1,6],by simp⟩
           · have hRe:=hR2 hc1 hk2;subst hRe;have hk3:(R.code != 2)=true:=by simpa using hk2
             by_cases hk1:R.code=1
             · simp only[Ec,B4,AA,Bs,hpn,hk2,hk1,if_true,if_false] at hcc;simp only[show ((1:Int)=2)=False by simp,if_false] at hcc;refine Ac (hcc) [5] [0,2] (by simp) ?_;simp[hk2,hk3,hk1];exact⟨[0],by simp[AA,Bs,hpf,hk2,hk1]⟩
             · simp only[Ec,B4,AA,Bs,hpn,hk2,hk1,if_true,if_false] at hcc;refine Ac (hcc) [5] [0,2] (by simp) ?_;simp[hk2,hk3,hk1];exact⟨[0],by simp[AA,Bs,hpf,hk2,hk1]⟩
         · obtain⟨hp3,hp4⟩:=hp2 hc1 hc2;have hRe:=hR3 hc1 hc2;subst hRe;simp;refine AS [(8,[0]),(9,[]),(10,[]),(11,[])] (by kernel_rfl) ?_;simp;refine Ab (Dq dec (by omega) hdb) ?_;simp
           first | refine BT (q:=1) AK (by exact rfl) (by simp) (by exact rfl) (by exact rfl) (by simp) (by simp) (by first | (simp;done)|(simp;omega)) ?_|refine BU AK (by exact rfl) (by simp) (by exact rfl) (by simp) (by first | (simp;done)|(simp;omega)) ?_
           simp;exact⟨[0,5],by simp[AA,DN,hpf,Aq,e1]⟩
     have hd1:dec[dec.length - 1]? = some l:=by rw[hdec];simp
     have hd2:0<dec.length:=by rw[hdec];simp
     have hd3:¬ dec=[]:=by rw[hdec];simp
     clear hdec;have wd:IntKind.i64.wrap ((dec.length:Int) - 1)=((dec.length - 1:Nat):Int):=by rw[Af (by omega) (by omega)];omega
     have hol:=CG par l;have hot:=Dt ht l;rcases C1 (n:=v) hl with ⟨m,hm,e⟩|⟨m,hm,e⟩
     · have hse:Co par l=par.set m 1:=by rw[e];exact Em par m
       rw[hse] at hR hol hot;rw[hp] at hol;have hg:=getD_some (p:=par) (m:=m) (by omega);have w3:IntKind.i64.wrap (l - 1)=(m:Int):=by rw[Af (by omega) (by omega)];omega
       have hset:=Gz (q:=par) (m:=m) (v:=1);generalize par.set m 1=own at *;generalize par.getD m 0=z0 at hg;simp[hd1,hd2,hd3,wd,show 0<l by omega,show ¬ l≤0 by omega,  w3,hg,hset];have hP:=FW cls own _ rfl hc (by omega) hot (by rw[hol];exact hcl);have hPf:=fun q=>CZ (cls:=cls) (p:=own) (p':=q) (by rw[hol];exact hcl) hot;generalize En cls own=Rq at *;refine Ab (hP) ?_;simp
       cases Rq with
       | none =>
         simp only at hR;subst hR;simp;refine AS [(8,[0]),(9,[]),(10,[]),(11,[])] (by kernel_rfl) ?_;simp;refine Ab (Dq dec (by omega) hdb) ?_;simp
         first | refine BT (q:=1) AK (by exact rfl) (by simp) (by exact rfl) (by exact rfl) (by simp) (by simp) (by first | (simp;done)|(simp;omega)) ?_|refine BU AK (by exact rfl) (by simp) (by exact rfl) (by simp) (by first | (simp;done)|(simp;omega)) ?_
         simp;exact⟨[0,5],by simp[AA,DN,hpf,Aq,e1]⟩
       | some q =>
         obtain⟨hql,hqt,-⟩:=hPf q rfl;rw[hol] at hql;have hzl:=EL q;have hz0:=EA (q:=q)
         replace hR:HA S (left - 1) dec pf q=R:=hR
         simp;refine AY [true,true,false,false,false,false,false,false,false,true,false,true] (fun i:Nat=>i≤q.length∧Am (q.drop i)+i=Am q) (fun i:Nat=>[(11,.d (.int .i64 i))]) (fun i:Nat=>[]) (fun i:Nat=>q.length - i) 0 ?_ ?_ ?_
         · exact⟨by omega,by simp⟩
         · exact⟨[0,1,2],by simp⟩
         rintro I Z μ hI hS hμ i ⟨hi,hzi⟩;by_cases hend:i=Am q
         case neg =>
          have hlt:i<q.length:=by
           rcases Nat.lt_or_ge i q.length with h|h
           · exact h
           · rw[List.drop_eq_nil_of_le h,Am] at hzi;omega
          have hx1:q[i]? = some q[i]:=zz0 hlt;rw[Ha hx1] at hzi;generalize q[i]=y at *;by_cases hy:y=0
          · rw[if_pos hy] at hzi;omega
          rw[if_neg hy] at hzi;have w5:IntKind.i64.wrap ((i:Int)+1)=(i:Int)+1:=Af (by omega) (by omega);simp[zz2 hlt,hx1,hy,show (y != 0)=true by simpa using hy,w5];exact Ae hI hS hμ (i+1) ⟨by omega,by omega⟩ (by omega) ⟨[0,1,2],by simp⟩
         subst hend;clear hzi;by_cases hfull:Am q=q.length
         · have hRf:=E8 hR hfull;clear hR;subst hRf;have hlt:¬ Am q<q.length:=by omega
           simp[hlt,zz3 hlt,hfull];exact⟨[0],by simp[AA,Bs,hpf]⟩
         obtain⟨r1,r2,hC1,hC2,hR1,hR2,hR3,hp1,hp2⟩:=IB hv ih hF hR hfull hql hqt (by omega) (by omega) hdl hdk (by omega) hpc;clear hR ih hF;have hlt:Am q<q.length:=by omega
         have hx0:=hz0 hlt;clear hz0;generalize Am q=z at *;have wz:IntKind.i64.wrap ((z:Int)+1)=(z:Int)+1:=Af (by omega) (by omega);have wn:IntKind.i64.wrap (-((z:Int)+1))=-((z:Int)+1):=Af (by omega) (by omega);have hzn:¬ z=q.length:=hfull;have hzf:((z:Int)==(q.length:Int))=false:=beq_false_of_ne (fun h=>hzn (Int.ofNat.inj h));have hzg:(z==q.length)=false:=beq_false_of_ne hzn;simp[zz2 hlt,hx0,wz,wn,hzn,hzf,hzg];refine As [true,true,false,false,false,false,false,false,false,true,false,false,false,false,false,false,false,false,false,false,false,false,false,false,false,false,false,false,false,false,false,false,false,false,false,false,false,false,false,false,false,false,false,false,false,false,false,false,false,false,false,false,false,false,false,false,false,false,false,false,false,false,false,false,false,false,false,false,false,false,false,false,false,false,false,false,false,false,false,false,false,false,false,false,false,false,false,false,false,false,true,true,true] (fun i:Nat=>i=0∨(i=1∧r1.code=2)∨(i=2∧r1.code=2∧r2.code=2)) (fun i:Nat=>[(9,.d (.sl 3 (q.map (e1 Az)))),(90,.ref 1),(91,.d (.int .i64 2)),(92,.d (.int .i64 i))]) (fun i:Nat=>fun _=>if i=0 then [G4 v cls B (.d (.int .i64 (B - (left - 1:Nat)))) (.nil 26) .any,.arr 3 true [[.int .i64 (-((z:Int)+1))],[.int .i64 ((z:Int)+1)]]] else if i=1 then [G4 v cls B (.d (.int .i64 (B - (r1.left:Nat)))) (.ref 2) .any,.arr 3 true [[.int .i64 (-((z:Int)+1))],[.int .i64 ((z:Int)+1)]],.arr 26 true (r1.pf.map Aq)] else [G4 v cls B (.d (.int .i64 (B - (r2.left:Nat)))) (.ref 2) .any,.arr 3 true [[.int .i64 (-((z:Int)+1))],[.int .i64 ((z:Int)+1)]],.arr 26 true (r2.pf.map Aq)]) (fun i:Nat=>2 - i) 0 ?_ ?_ ?_
         · simp
         · exact⟨[0,3],by simp⟩
         rintro I2 Z2 μ2 hI2 hS2 hμ2 i (rfl|⟨rfl,hc1⟩|⟨rfl,hc1,hc2⟩)
         · simp;refine Ab (Cm dec (by omega)) ?_;simp;refine Aw AX rfl (by simp) rfl (by simp) (by simp) (by first | (simp;done)|(simp;omega)) (by simp[Bp,A4]) ?_;simp;have hcc:=hC1;by_cases hk2:r1.code=2
           · simp only[Ec,B4,AA,DN,hpf,hk2,if_true,if_false] at hcc;refine Ac (hcc) [4] [0] (by simp) ?_;simp[hk2,show IntKind.i64.wrap 1=1 from rfl,show IntKind.i64.wrap 2=2 from rfl];exact Ae hI2 hS2 hμ2 1 (.inr (.inl ⟨rfl,hk2⟩)) (by simp) ⟨[0,1,5],by simp⟩
           · have hRe:=hR1 hk2;subst hRe;have hk3:(R.code != 2)=true:=by simpa using hk2
             by_cases hk1:R.code=1
             · simp only[Ec,B4,AA,Bs,hpf,hk2,hk1,if_true,if_false] at hcc;simp only[show ((1:Int)=2)=False by simp,if_false] at hcc;refine Ac (hcc) [4] [0] (by simp) ?_;simp[hk2,hk3,hk1];exact⟨[0],by simp[AA,Bs,hpf,hk2,hk1]⟩
             · simp only[Ec,B4,AA,Bs,hpf,hk2,hk1,if_true,if_false] at hcc;refine Ac (hcc) [4] [0] (by simp) ?_;simp[hk2,hk3,hk1];exact⟨[0],by simp[AA,Bs,hpf,hk2,hk1]⟩
         · have hpn:=hp1 hc1;simp;refine Ab (Cm dec (by omega)) ?_;simp;refine Aw AX rfl (by simp) rfl (by simp) (by simp) (by first | (simp;done)|(simp;omega)) (by simp[Bp,A4]) ?_;simp;have hcc:=hC2 hc1;by_cases hk2:r2.code=2
           · simp only[Ec,B4,AA,DN,hpn,hk2,if_true,if_false] at hcc;refine Ac (hcc) [5] [0,2] (by simp) ?_;simp[hk2,show IntKind.i64.wrap 1=1 from rfl,show IntKind.i64.wrap 2=2 from rfl];exact Ae hI2 hS2 hμ2 2 (.inr (.inr ⟨rfl,hc1,hk2⟩)) (by simp) ⟨[0,1,6],by simp⟩
           · have hRe:=hR2 hc1 hk2;subst hRe;have hk3:(R.code != 2)=true:=by simpa using hk2
             by_cases hk1:R.code=1
             · simp only[Ec,B4,AA,Bs,hpn,hk2,hk1,if_true,if_false] at hcc;simp only[show ((1:Int)=2)=False by simp,if_false] at hcc;refine Ac (hcc) [5] [0,2] (by simp) ?_;simp[hk2,hk3,hk1];exact⟨[0],by simp[AA,Bs,hpf,hk2,hk1]⟩
             · simp only[Ec,B4,AA,Bs,hpn,hk2,hk1,if_true,if_false] at hcc;refine Ac (hcc) [5] [0,2] (by simp) ?_;simp[hk2,hk3,hk1];exact⟨[0],by simp[AA,Bs,hpf,hk2,hk1]⟩
         · obtain⟨hp3,hp4⟩:=hp2 hc1 hc2;have hRe:=hR3 hc1 hc2;subst hRe;simp;refine AS [(8,[0]),(9,[]),(10,[]),(11,[])] (by kernel_rfl) ?_;simp;refine Ab (Dq dec (by omega) hdb) ?_;simp
           first | refine BT (q:=1) AK (by exact rfl) (by simp) (by exact rfl) (by exact rfl) (by simp) (by simp) (by first | (simp;done)|(simp;omega)) ?_|refine BU AK (by exact rfl) (by simp) (by exact rfl) (by simp) (by first | (simp;done)|(simp;omega)) ?_
           simp;exact⟨[0,5],by simp[AA,DN,hpf,Aq,e1]⟩
     · have hse:Co par l=par.set m (-1):=by rw[e];exact Da par m
       rw[hse] at hR hol hot;rw[hp] at hol;have hg:=getD_some (p:=par) (m:=m) (by omega);have w3:IntKind.i64.wrap (-l)=(m:Int)+1:=by rw[Af (by omega) (by omega)];omega
       have w4:IntKind.i64.wrap (m:Int)=(m:Int):=Af (by omega) (by omega);have hset:=Gz (q:=par) (m:=m) (v:=-1);generalize par.set m (-1)=own at *;generalize par.getD m 0=z0 at hg;simp[hd1,hd2,hd3,wd,show ¬ 0<l by omega,show l≤0 by omega,w4,  w3,hg,hset];have hP:=FW cls own _ rfl hc (by omega) hot (by rw[hol];exact hcl);have hPf:=fun q=>CZ (cls:=cls) (p:=own) (p':=q) (by rw[hol];exact hcl) hot;generalize En cls own=Rq at *;refine Ab (hP) ?_;simp
       cases Rq with
       | none =>
         simp only at hR;subst hR;simp;refine AS [(8,[0]),(9,[]),(10,[]),(11,[])] (by kernel_rfl) ?_;simp;refine Ab (Dq dec (by omega) hdb) ?_;simp
         first | refine BT (q:=1) AK (by exact rfl) (by simp) (by exact rfl) (by exact rfl) (by simp) (by simp) (by first | (simp;done)|(simp;omega)) ?_|refine BU AK (by exact rfl) (by simp) (by exact rfl) (by simp) (by first | (simp;done)|(simp;omega)) ?_
         simp;exact⟨[0,5],by simp[AA,DN,hpf,Aq,e1]⟩
       | some q =>
         obtain⟨hql,hqt,-⟩:=hPf q rfl;rw[hol] at hql;have hzl:=EL q;have hz0:=EA (q:=q)
         replace hR:HA S (left - 1) dec pf q=R:=hR
         simp;refine AY [true,true,false,false,false,false,false,false,false,true,false,true] (fun i:Nat=>i≤q.length∧Am (q.drop i)+i=Am q) (fun i:Nat=>[(11,.d (.int .i64 i))]) (fun i:Nat=>[]) (fun i:Nat=>q.length - i) 0 ?_ ?_ ?_
         · exact⟨by omega,by simp⟩
         · exact⟨[0,1,2],by simp⟩
         rintro I Z μ hI hS hμ i ⟨hi,hzi⟩;by_cases hend:i=Am q
         case neg =>
          have hlt:i<q.length:=by
           rcases Nat.lt_or_ge i q.length with h|h
           · exact h
           · rw[List.drop_eq_nil_of_le h,Am] at hzi;omega
          have hx1:q[i]? = some q[i]:=zz0 hlt;rw[Ha hx1] at hzi;generalize q[i]=y at *;by_cases hy:y=0
          · rw[if_pos hy] at hzi;omega
          rw[if_neg hy] at hzi;have w5:IntKind.i64.wrap ((i:Int)+1)=(i:Int)+1:=Af (by omega) (by omega);simp[zz2 hlt,hx1,hy,show (y != 0)=true by simpa using hy,w5];exact Ae hI hS hμ (i+1) ⟨by omega,by omega⟩ (by omega) ⟨[0,1,2],by simp⟩
         subst hend;clear hzi;by_cases hfull:Am q=q.length
         · have hRf:=E8 hR hfull;clear hR;subst hRf;have hlt:¬ Am q<q.length:=by omega
           simp[hlt,zz3 hlt,hfull];exact⟨[0],by simp[AA,Bs,hpf]⟩
         obtain⟨r1,r2,hC1,hC2,hR1,hR2,hR3,hp1,hp2⟩:=IB hv ih hF hR hfull hql hqt (by omega) (by omega) hdl hdk (by omega) hpc;clear hR ih hF;have hlt:Am q<q.length:=by omega
         have hx0:=hz0 hlt;clear hz0;generalize Am q=z at *;have wz:IntKind.i64.wrap ((z:Int)+1)=(z:Int)+1:=Af (by omega) (by omega);have wn:IntKind.i64.wrap (-((z:Int)+1))=-((z:Int)+1):=Af (by omega) (by omega);have hzn:¬ z=q.length:=hfull;have hzf:((z:Int)==(q.length:Int))=false:=beq_false_of_ne (fun h=>hzn (Int.ofNat.inj h));have hzg:(z==q.length)=false:=beq_false_of_ne hzn;simp[zz2 hlt,hx0,wz,wn,hzn,hzf,hzg];refine As [true,true,false,false,false,false,false,false,false,true,false,false,false,false,false,false,false,false,false,false,false,false,false,false,false,false,false,false,false,false,false,false,false,false,false,false,false,false,false,false,false,false,false,false,false,false,false,false,false,false,false,false,false,false,false,false,false,false,false,false,false,false,false,false,false,false,false,false,false,false,false,false,false,false,false,false,false,false,false,false,false,false,false,false,false,false,false,false,false,false,true,true,true] (fun i:Nat=>i=0∨(i=1∧r1.code=2)∨(i=2∧r1.code=2∧r2.code=2)) (fun i:Nat=>[(9,.d (.sl 3 (q.map (e1 Az)))),(90,.ref 1),(91,.d (.int .i64 2)),(92,.d (.int .i64 i))]) (fun i:Nat=>fun _=>if i=0 then [G4 v cls B (.d (.int .i64 (B - (left - 1:Nat)))) (.nil 26) .any,.arr 3 true [[.int .i64 (-((z:Int)+1))],[.int .i64 ((z:Int)+1)]]] else if i=1 then [G4 v cls B (.d (.int .i64 (B - (r1.left:Nat)))) (.ref 2) .any,.arr 3 true [[.int .i64 (-((z:Int)+1))],[.int .i64 ((z:Int)+1)]],.arr 26 true (r1.pf.map Aq)] else [G4 v cls B (.d (.int .i64 (B - (r2.left:Nat)))) (.ref 2) .any,.arr 3 true [[.int .i64 (-((z:Int)+1))],[.int .i64 ((z:Int)+1)]],.arr 26 true (r2.pf.map Aq)]) (fun i:Nat=>2 - i) 0 ?_ ?_ ?_
         · simp
         · exact⟨[0,3],by simp⟩
         rintro I2 Z2 μ2 hI2 hS2 hμ2 i (rfl|⟨rfl,hc1⟩|⟨rfl,hc1,hc2⟩)
         · simp;refine Ab (Cm dec (by omega)) ?_;simp;refine Aw AX rfl (by simp) rfl (by simp) (by simp) (by first | (simp;done)|(simp;omega)) (by simp[Bp,A4]) ?_;simp;have hcc:=hC1;by_cases hk2:r1.code=2
           · simp only[Ec,B4,AA,DN,hpf,hk2,if_true,if_false] at hcc;refine Ac (hcc) [4] [0] (by simp) ?_;simp[hk2,show IntKind.i64.wrap 1=1 from rfl,show IntKind.i64.wrap 2=2 from rfl];exact Ae hI2 hS2 hμ2 1 (.inr (.inl ⟨rfl,hk2⟩)) (by simp) ⟨[0,1,5],by simp⟩
           · have hRe:=hR1 hk2;subst hRe;have hk3:(R.code != 2)=true:=by simpa using hk2
             by_cases hk1:R.code=1
             · simp only[Ec,B4,AA,Bs,hpf,hk2,hk1,if_true,if_false] at hcc;simp only[show ((1:Int)=2)=False by simp,if_false] at hcc;refine Ac (hcc) [4] [0] (by simp) ?_;simp[hk2,hk3,hk1];exact⟨[0],by simp[AA,Bs,hpf,hk2,hk1]⟩
             · simp only[Ec,B4,AA,Bs,hpf,hk2,hk1,if_true,if_false] at hcc;refine Ac (hcc) [4] [0] (by simp) ?_;simp[hk2,hk3,hk1];exact⟨[0],by simp[AA,Bs,hpf,hk2,hk1]⟩
         · have hpn:=hp1 hc1;simp;refine Ab (Cm dec (by omega)) ?_;simp;refine Aw AX rfl (by simp) rfl (by simp) (by simp) (by first | (simp;done)|(simp;omega)) (by simp[Bp,A4]) ?_;simp;have hcc:=hC2 hc1;by_cases hk2:r2.code=2
           · simp only[Ec,B4,AA,DN,hpn,hk2,if_true,if_false] at hcc;refine Ac (hcc) [5] [0,2] (by simp) ?_;simp[hk2,show IntKind.i64.wrap 1=1 from rfl,show IntKind.i64.wrap 2=2 from rfl];exact Ae hI2 hS2 hμ2 2 (.inr (.inr ⟨rfl,hc1,hk2⟩)) (by simp) ⟨[0,1,6],by simp⟩
           · have hRe:=hR2 hc1 hk2;subst hRe;have hk3:(R.code != 2)=true:=by simpa using hk2
             by_cases hk1:R.code=1
             · simp only[Ec,B4,AA,Bs,hpn,hk2,hk1,if_true,if_false] at hcc;simp only[show ((1:Int)=2)=False by simp,if_false] at hcc;refine Ac (hcc) [5] [0,2] (by simp) ?_;simp[hk2,hk3,hk1];exact⟨[0],by simp[AA,Bs,hpf,hk2,hk1]⟩
             · simp only[Ec,B4,AA,Bs,hpn,hk2,hk1,if_true,if_false] at hcc;refine Ac (hcc) [5] [0,2] (by simp) ?_;simp[hk2,hk3,hk1];exact⟨[0],by simp[AA,Bs,hpf,hk2,hk1]⟩
         · obtain⟨hp3,hp4⟩:=hp2 hc1 hc2;have hRe:=hR3 hc1 hc2;subst hRe;simp;refine AS [(8,[0]),(9,[]),(10,[]),(11,[])] (by kernel_rfl) ?_;simp;refine Ab (Dq dec (by omega) hdb) ?_;simp
           first | refine BT (q:=1) AK (by exact rfl) (by simp) (by exact rfl) (by exact rfl) (by simp) (by simp) (by first | (simp;done)|(simp;omega)) ?_|refine BU AK (by exact rfl) (by simp) (by exact rfl) (by simp) (by first | (simp;done)|(simp;omega)) ?_
           simp;exact⟨[0,5],by simp[AA,DN,hpf,Aq,e1]⟩
   · simp[B4,hpf];refine AJ 9 (by kernel_rfl) ?_;simp;by_cases h0:left=0
     · rw[if_pos h0] at hR;subst hR h0;simp[AA,Bs,hpf];exact⟨[0,1],by simp⟩
     rw[if_neg h0] at hR;have wv:IntKind.i64.wrap (B - (left:Int)+1)=B - ((left - 1:Nat):Int):=by rw[Af (by omega) (by omega)];omega
     simp[show ¬ B≤B - (left:Int) by omega,show B - (left:Int)<B by omega,show (0:Int)<left by omega,h0,wv];refine Ab (Cm par (by omega)) ?_;simp;rcases hd with ⟨hd0,rfl⟩|⟨d0,l,hdec,hl,rfl⟩
     · have hdz:dec.length=0:=by rw[hd0];rfl
       clear hd0;have hol:=hp;have hot:=ht;simp[hdz];intro _;have hP:=FW cls own _ rfl hc (by omega) hot (by rw[hol];exact hcl);have hPf:=fun q=>CZ (cls:=cls) (p:=own) (p':=q) (by rw[hol];exact hcl) hot;generalize En cls own=Rq at *;refine Ab (hP) ?_;simp
       cases Rq with
       | none =>
         simp only at hR;subst hR;simp;refine AS [(8,[0]),(9,[]),(10,[]),(11,[])] (by kernel_rfl) ?_;simp;refine Ab (Dq dec (by omega) hdb) ?_;simp
         first | refine BT (q:=1) AK (by exact rfl) (by simp) (by exact rfl) (by exact rfl) (by simp) (by simp) (by first | (simp;done)|(simp;omega)) ?_|refine BU AK (by exact rfl) (by simp) (by exact rfl) (by simp) (by first | (simp;done)|(simp;omega)) ?_
         simp;exact⟨[0,1,6],by simp[AA,DN,hpf,Aq,e1]⟩
       | some q =>
         obtain⟨hql,hqt,-⟩:=hPf q rfl;rw[hol] at hql;have hzl:=EL q;have hz0:=EA (q:=q)
         replace hR:HA S (left - 1) dec pf q=R:=hR
         simp;refine AY [true,true,false,false,false,false,false,false,false,true,false,true] (fun i:Nat=>i≤q.length∧Am (q.drop i)+i=Am q) (fun i:Nat=>[(11,.d (.int .i64 i))]) (fun i:Nat=>[]) (fun i:Nat=>q.length - i) 0 ?_ ?_ ?_
         · exact⟨by omega,by simp⟩
         · exact⟨[0,1,2,3],by simp⟩
         rintro I Z μ hI hS hμ i ⟨hi,hzi⟩;by_cases hend:i=Am q
         case neg =>
          have hlt:i<q.length:=by
           rcases Nat.lt_or_ge i q.length with h|h
           · exact h
           · rw[List.drop_eq_nil_of_le h,Am] at hzi;omega
          have hx1:q[i]? = some q[i]:=zz0 hlt;rw[Ha hx1] at hzi;generalize q[i]=y at *;by_cases hy:y=0
          · rw[if_pos hy] at hzi;omega
          rw[if_neg hy] at hzi;have w5:IntKind.i64.wrap ((i:Int)+1)=(i:Int)+1:=Af (by omega) (by omega);simp[zz2 hlt,hx1,hy,show (y != 0)=true by simpa using hy,w5];exact Ae hI hS hμ (i+1) ⟨by omega,by omega⟩ (by omega) ⟨[0,1,2,3],by simp⟩
         subst hend;clear hzi;by_cases hfull:Am q=q.length
         · have hRf:=E8 hR hfull;clear hR;subst hRf;have hlt:¬ Am q<q.length:=by omega
           simp[hlt,zz3 hlt,hfull];exact⟨[0,1],by simp[AA,Bs,hpf]⟩
         obtain⟨r1,r2,hC1,hC2,hR1,hR2,hR3,hp1,hp2⟩:=IB hv ih hF hR hfull hql hqt (by omega) (by omega) hdl hdk (by omega) hpc;clear hR ih hF;have hlt:Am q<q.length:=by omega
         have hx0:=hz0 hlt;clear hz0;generalize Am q=z at *;have wz:IntKind.i64.wrap ((z:Int)+1)=(z:Int)+1:=Af (by omega) (by omega);have wn:IntKind.i64.wrap (-((z:Int)+1))=-((z:Int)+1):=Af (by omega) (by omega);have hzn:¬ z=q.length:=hfull;have hzf:((z:Int)==(q.length:Int))=false:=beq_false_of_ne (fun h=>hzn (Int.ofNat.inj h));have hzg:(z==q.length)=false:=beq_false_of_ne hzn;simp[zz2 hlt,hx0,wz,wn,hzn,hzf,hzg];refine As [true,true,false,false,false,false,false,false,false,true,false,false,false,false,false,false,false,false,false,false,false,false,false,false,false,false,false,false,false,false,false,false,false,false,false,false,false,false,false,false,false,false,false,false,false,false,false,false,false,false,false,false,false,false,false,false,false,false,false,false,false,false,false,false,false,false,false,false,false,false,false,false,false,false,false,false,false,false,false,false,false,false,false,false,false,false,false,false,false,false,true,true,true] (fun i:Nat=>i=0∨(i=1∧r1.code=2)∨(i=2∧r1.code=2∧r2.code=2)) (fun i:Nat=>[(9,.d (.sl 3 (q.map (e1 Az)))),(90,.ref 2),(91,.d (.int .i64 2)),(92,.d (.int .i64 i))]) (fun i:Nat=>fun _=>if i=0 then [G4 v cls B (.d (.int .i64 (B - (left - 1:Nat)))) (.ref 1) .any,.arr 26 true (pf.map Aq),.arr 3 true [[.int .i64 (-((z:Int)+1))],[.int .i64 ((z:Int)+1)]]] else if i=1 then [G4 v cls B (.d (.int .i64 (B - (r1.left:Nat)))) (.ref 3) .any,.dead,.arr 3 true [[.int .i64 (-((z:Int)+1))],[.int .i64 ((z:Int)+1)]],.arr 26 true (r1.pf.map Aq)] else [G4 v cls B (.d (.int .i64 (B - (r2.left:Nat)))) (.ref 3) .any,.dead,.arr 3 true [[.int .i64 (-((z:Int)+1))],[.int .i64 ((z:Int)+1)]],.arr 26 true (r2.pf.map Aq)]) (fun i:Nat=>2 - i) 0 ?_ ?_ ?_
         · simp
         · exact⟨[0,1,4],by simp⟩
         rintro I2 Z2 μ2 hI2 hS2 hμ2 i (rfl|⟨rfl,hc1⟩|⟨rfl,hc1,hc2⟩)
         · simp;refine Ab (Cm dec (by omega)) ?_;simp;refine Aw AX rfl (by simp) rfl (by simp) (by simp) (by first | (simp;done)|(simp;omega)) (by simp[Bp,A4]) ?_;simp;have hcc:=hC1;by_cases hk2:r1.code=2
           · simp only[Ec,B4,AA,DN,hpf,hk2,if_true,if_false] at hcc;refine Ac (hcc) [5] [0,1] (by simp) ?_;simp[hk2,show IntKind.i64.wrap 1=1 from rfl,show IntKind.i64.wrap 2=2 from rfl];exact Ae hI2 hS2 hμ2 1 (.inr (.inl ⟨rfl,hk2⟩)) (by simp) ⟨[0,1,2,6],by simp⟩
           · have hRe:=hR1 hk2;subst hRe;have hk3:(R.code != 2)=true:=by simpa using hk2
             by_cases hk1:R.code=1
             · simp only[Ec,B4,AA,Bs,hpf,hk2,hk1,if_true,if_false] at hcc;simp only[show ((1:Int)=2)=False by simp,if_false] at hcc;refine Ac (hcc) [5] [0,1] (by simp) ?_;simp[hk2,hk3,hk1];exact⟨[0,1],by simp[AA,Bs,hpf,hk2,hk1]⟩
             · simp only[Ec,B4,AA,Bs,hpf,hk2,hk1,if_true,if_false] at hcc;refine Ac (hcc) [5] [0,1] (by simp) ?_;simp[hk2,hk3,hk1];exact⟨[0,1],by simp[AA,Bs,hpf,hk2,hk1]⟩
         · have hpn:=hp1 hc1;simp;refine Ab (Cm dec (by omega)) ?_;simp;refine Aw AX rfl (by simp) rfl (by simp) (by simp) (by first | (simp;done)|(simp;omega)) (by simp[Bp,A4]) ?_;simp;have hcc:=hC2 hc1;by_cases hk2:r2.code=2
           · simp only[Ec,B4,AA,DN,hpn,hk2,if_true,if_false] at hcc;refine Ac (hcc) [6] [0,3] (by simp) ?_;simp[hk2,show IntKind.i64.wrap 1=1 from rfl,show IntKind.i64.wrap 2=2 from rfl];exact Ae hI2 hS2 hμ2 2 (.inr (.inr ⟨rfl,hc1,hk2⟩)) (by simp) ⟨[0,1,2,7],by simp⟩
           · have hRe:=hR2 hc1 hk2;subst hRe;have hk3:(R.code != 2)=true:=by simpa using hk2
             by_cases hk1:R.code=1
             · simp only[Ec,B4,AA,Bs,hpn,hk2,hk1,if_true,if_false] at hcc;simp only[show ((1:Int)=2)=False by simp,if_false] at hcc;refine Ac (hcc) [6] [0,3] (by simp) ?_;simp[hk2,hk3,hk1];exact⟨[0,1],by simp[AA,Bs,hpf,hk2,hk1]⟩
             · simp only[Ec,B4,AA,Bs,hpn,hk2,hk1,if_true,if_false] at hcc;refine Ac (hcc) [6] [0,3] (by simp) ?_;simp[hk2,hk3,hk1];exact⟨[0,1],by simp[AA,Bs,hpf,hk2,hk1]⟩
         · obtain⟨hp3,hp4⟩:=hp2 hc1 hc2;have hRe:=hR3 hc1 hc2;subst hRe;simp;refine AS [(8,[0]),(9,[]),(10,[]),(11,[])] (by kernel_rfl) ?_;simp;refine Ab (Dq dec (by omega) hdb) ?_;simp
           first | refine BT (q:=1) AK (by exact rfl) (by simp) (by exact rfl) (by exact rfl) (by simp) (by simp) (by first | (simp;done)|(simp;omega)) ?_|refine BU AK (by exact rfl) (by simp) (by exact rfl) (by simp) (by first | (simp;done)|(simp;omega)) ?_
           simp;exact⟨[0,1,6],by simp[AA,DN,hpf,Aq,e1]⟩
     have hd1:dec[dec.length - 1]? = some l:=by rw[hdec];simp
     have hd2:0<dec.length:=by rw[hdec];simp
     have hd3:¬ dec=[]:=by rw[hdec];simp
     clear hdec;have wd:IntKind.i64.wrap ((dec.length:Int) - 1)=((dec.length - 1:Nat):Int):=by rw[Af (by omega) (by omega)];omega
     have hol:=CG par l;have hot:=Dt ht l;rcases C1 (n:=v) hl with ⟨m,hm,e⟩|⟨m,hm,e⟩
     · have hse:Co par l=par.set m 1:=by rw[e];exact Em par m
       rw[hse] at hR hol hot;rw[hp] at hol;have hg:=getD_some (p:=par) (m:=m) (by omega);have w3:IntKind.i64.wrap (l - 1)=(m:Int):=by rw[Af (by omega) (by omega)];omega
       have hset:=Gz (q:=par) (m:=m) (v:=1);generalize par.set m 1=own at *;generalize par.getD m 0=z0 at hg;simp[hd1,hd2,hd3,wd,show 0<l by omega,show ¬ l≤0 by omega,  w3,hg,hset];have hP:=FW cls own _ rfl hc (by omega) hot (by rw[hol];exact hcl);have hPf:=fun q=>CZ (cls:=cls) (p:=own) (p':=q) (by rw[hol];exact hcl) hot;generalize En cls own=Rq at *;refine Ab (hP) ?_;simp
       cases Rq with
       | none =>
         simp only at hR;subst hR;simp;refine AS [(8,[0]),(9,[]),(10,[]),(11,[])] (by kernel_rfl) ?_;simp;refine Ab (Dq dec (by omega) hdb) ?_;simp
         first | refine BT (q:=1) AK (by exact rfl) (by simp) (by exact rfl) (by exact rfl) (by simp) (by simp) (by first | (simp;done)|(simp;omega)) ?_|refine BU AK (by exact rfl) (by simp) (by exact rfl) (by simp) (by first | (simp;done)|(simp;omega)) ?_
         simp;exact⟨[0,1,6],by simp[AA,DN,hpf,Aq,e1]⟩
       | some q =>
         obtain⟨hql,hqt,-⟩:=hPf q rfl;rw[hol] at hql;have hzl:=EL q;have hz0:=EA (q:=q)
         replace hR:HA S (left - 1) dec pf q=R:=hR
         simp;refine AY [true,true,false,false,false,false,false,false,false,true,false,true] (fun i:Nat=>i≤q.length∧Am (q.drop i)+i=Am q) (fun i:Nat=>[(11,.d (.int .i64 i))]) (fun i:Nat=>[]) (fun i:Nat=>q.length - i) 0 ?_ ?_ ?_
         · exact⟨by omega,by simp⟩
         · exact⟨[0,1,2,3],by simp⟩
         rintro I Z μ hI hS hμ i ⟨hi,hzi⟩;by_cases hend:i=Am q
         case neg =>
          have hlt:i<q.length:=by
           rcases Nat.lt_or_ge i q.length with h|h
           · exact h
           · rw[List.drop_eq_nil_of_le h,Am] at hzi;omega
          have hx1:q[i]? = some q[i]:=zz0 hlt;rw[Ha hx1] at hzi;generalize q[i]=y at *;by_cases hy:y=0
          · rw[if_pos hy] at hzi;omega
          rw[if_neg hy] at hzi;have w5:IntKind.i64.wrap ((i:Int)+1)=(i:Int)+1:=Af (by omega) (by omega);simp[zz2 hlt,hx1,hy,show (y != 0)=true by simpa using hy,w5];exact Ae hI hS hμ (i+1) ⟨by omega,by omega⟩ (by omega) ⟨[0,1,2,3],by simp⟩
         subst hend;clear hzi;by_cases hfull:Am q=q.length
         · have hRf:=E8 hR hfull;clear hR;subst hRf;have hlt:¬ Am q<q.length:=by omega
           simp[hlt,zz3 hlt,hfull];exact⟨[0,1],by simp[AA,Bs,hpf]⟩
         obtain⟨r1,r2,hC1,hC2,hR1,hR2,hR3,hp1,hp2⟩:=IB hv ih hF hR hfull hql hqt (by omega) (by omega) hdl hdk (by omega) hpc;clear hR ih hF;have hlt:Am q<q.length:=by omega
         have hx0:=hz0 hlt;clear hz0;generalize Am q=z at *;have wz:IntKind.i64.wrap ((z:Int)+1)=(z:Int)+1:=Af (by omega) (by omega);have wn:IntKind.i64.wrap (-((z:Int)+1))=-((z:Int)+1):=Af (by omega) (by omega);have hzn:¬ z=q.length:=hfull;have hzf:((z:Int)==(q.length:Int))=false:=beq_false_of_ne (fun h=>hzn (Int.ofNat.inj h));have hzg:(z==q.length)=false:=beq_false_of_ne hzn;simp[zz2 hlt,hx0,wz,wn,hzn,hzf,hzg];refine As [true,true,false,false,false,false,false,false,false,true,false,false,false,false,false,false,false,false,false,false,false,false,false,false,false,false,false,false,false,false,false,false,false,false,false,false,false,false,false,false,false,false,false,false,false,false,false,false,false,false,false,false,false,false,false,false,false,false,false,false,false,false,false,false,false,false,false,false,false,false,false,false,false,false,false,false,false,false,false,false,false,false,false,false,false,false,false,false,false,false,true,true,true] (fun i:Nat=>i=0∨(i=1∧r1.code=2)∨(i=2∧r1.code=2∧r2.code=2)) (fun i:Nat=>[(9,.d (.sl 3 (q.map (e1 Az)))),(90,.ref 2),(91,.d (.int .i64 2)),(92,.d (.int .i64 i))]) (fun i:Nat=>fun _=>if i=0 then [G4 v cls B (.d (.int .i64 (B - (left - 1:Nat)))) (.ref 1) .any,.arr 26 true (pf.map Aq),.arr 3 true [[.int .i64 (-((z:Int)+1))],[.int .i64 ((z:Int)+1)]]] else if i=1 then [G4 v cls B (.d (.int .i64 (B - (r1.left:Nat)))) (.ref 3) .any,.dead,.arr 3 true [[.int .i64 (-((z:Int)+1))],[.int .i64 ((z:Int)+1)]],.arr 26 true (r1.pf.map Aq)] else [G4 v cls B (.d (.int .i64 (B - (r2.left:Nat)))) (.ref 3) .any,.dead,.arr 3 true [[.int .i64 (-((z:Int)+1))],[.int .i64 ((z:Int)+1)]],.arr 26 true (r2.pf.map Aq)]) (fun i:Nat=>2 - i) 0 ?_ ?_ ?_
         · simp
         · exact⟨[0,1,4],by simp⟩
         rintro I2 Z2 μ2 hI2 hS2 hμ2 i (rfl|⟨rfl,hc1⟩|⟨rfl,hc1,hc2⟩)
         · simp;refine Ab (Cm dec (by omega)) ?_;simp;refine Aw AX rfl (by simp) rfl (by simp) (by simp) (by first | (simp;done)|(simp;omega)) (by simp[Bp,A4]) ?_;simp;have hcc:=hC1;by_cases hk2:r1.code=2
           · simp only[Ec,B4,AA,DN,hpf,hk2,if_true,if_false] at hcc;refine Ac (hcc) [5] [0,1] (by simp) ?_;simp[hk2,show IntKind.i64.wrap 1=1 from rfl,show IntKind.i64.wrap 2=2 from rfl];exact Ae hI2 hS2 hμ2 1 (.inr (.inl ⟨rfl,hk2⟩)) (by simp) ⟨[0,1,2,6],by simp⟩
           · have hRe:=hR1 hk2;subst hRe;have hk3:(R.code != 2)=true:=by simpa using hk2
             by_cases hk1:R.code=1
             · simp only[Ec,B4,AA,Bs,hpf,hk2,hk1,if_true,if_false] at hcc;simp only[show ((1:Int)=2)=False by simp,if_false] at hcc;refine Ac (hcc) [5] [0,1] (by simp) ?_;simp[hk2,hk3,hk1];exact⟨[0,1],by simp[AA,Bs,hpf,hk2,hk1]⟩
             · simp only[Ec,B4,AA,Bs,hpf,hk2,hk1,if_true,if_false] at hcc;refine Ac (hcc) [5] [0,1] (by simp) ?_;simp[hk2,hk3,hk1];exact⟨[0,1],by simp[AA,Bs,hpf,hk2,hk1]⟩
         · have hpn:=hp1 hc1;simp;refine Ab (Cm dec (by omega)) ?_;simp;refine Aw AX rfl (by simp) rfl (by simp) (by simp) (by first | (simp;done)|(simp;omega)) (by simp[Bp,A4]) ?_;simp;have hcc:=hC2 hc1;by_cases hk2:r2.code=2
           · simp only[Ec,B4,AA,DN,hpn,hk2,if_true,if_false] at hcc;refine Ac (hcc) [6] [0,3] (by simp) ?_;simp[hk2,show IntKind.i64.wrap 1=1 from rfl,show IntKind.i64.wrap 2=2 from rfl];exact Ae hI2 hS2 hμ2 2 (.inr (.inr ⟨rfl,hc1,hk2⟩)) (by simp) ⟨[0,1,2,7],by simp⟩
           · have hRe:=hR2 hc1 hk2;subst hRe;have hk3:(R.code != 2)=true:=by simpa using hk2
             by_cases hk1:R.code=1
             · simp only[Ec,B4,AA,Bs,hpn,hk2,hk1,if_true,if_false] at hcc;simp only[show ((1:Int)=2)=False by simp,if_false] at hcc;refine Ac (hcc) [6] [0,3] (by simp) ?_;simp[hk2,hk3,hk1];exact⟨[0,1],by simp[AA,Bs,hpf,hk2,hk1]⟩
             · simp only[Ec,B4,AA,Bs,hpn,hk2,hk1,if_true,if_false] at hcc;refine Ac (hcc) [6] [0,3] (by simp) ?_;simp[hk2,hk3,hk1];exact⟨[0,1],by simp[AA,Bs,hpf,hk2,hk1]⟩
         · obtain⟨hp3,hp4⟩:=hp2 hc1 hc2;have hRe:=hR3 hc1 hc2;subst hRe;simp;refine AS [(8,[0]),(9,[]),(10,[]),(11,[])] (by kernel_rfl) ?_;simp;refine Ab (Dq dec (by omega) hdb) ?_;simp
           first | refine BT (q:=1) AK (by exact rfl) (by simp) (by exact rfl) (by exact rfl) (by simp) (by simp) (by first | (simp;done)|(simp;omega)) ?_|refine BU AK (by exact rfl) (by simp) (by exact rfl) (by simp) (by first | (simp;done)|(simp;omega)) ?_
           simp;exact⟨[0,1,6],by simp[AA,DN,hpf,Aq,e1]⟩
     · have hse:Co par l=par.set m (-1):=by rw[e];exact Da par m
       rw[hse] at hR hol hot;rw[hp] at hol;have hg:=getD_some (p:=par) (m:=m) (by omega);have w3:IntKind.i64.wrap (-l)=(m:Int)+1:=by rw[Af (by omega) (by omega)];omega
       have w4:IntKind.i64.wrap (m:Int)=(m:Int):=Af (by omega) (by omega);have hset:=Gz (q:=par) (m:=m) (v:=-1);generalize par.set m (-1)=own at *;generalize par.getD m 0=z0 at hg;simp[hd1,hd2,hd3,wd,show ¬ 0<l by omega,show l≤0 by omega,w4,  w3,hg,hset];have hP:=FW cls own _ rfl hc (by omega) hot (by rw[hol];exact hcl);have hPf:=fun q=>CZ (cls:=cls) (p:=own) (p':=q) (by rw[hol];exact hcl) hot;generalize En cls own=Rq at *;refine Ab (hP) ?_;simp
       cases Rq with
       | none =>
         simp only at hR;subst hR;simp;refine AS [(8,[0]),(9,[]),(10,[]),(11,[])] (by kernel_rfl) ?_;simp;refine Ab (Dq dec (by omega) hdb) ?_;simp
         first | refine BT (q:=1) AK (by exact rfl) (by simp) (by exact rfl) (by exact rfl) (by simp) (by simp) (by first | (simp;done)|(simp;omega)) ?_|refine BU AK (by exact rfl) (by simp) (by exact rfl) (by simp) (by first | (simp;done)|(simp;omega)) ?_
         simp;exact⟨[0,1,6],by simp[AA,DN,hpf,Aq,e1]⟩
       | some q =>
         obtain⟨hql,hqt,-⟩:=hPf q rfl;rw[hol] at hql;have hzl:=EL q;have hz0:=EA (q:=q)
         replace hR:HA S (left - 1) dec pf q=R:=hR
         simp;refine AY [true,true,false,false,false,false,false,false,false,true,false,true] (fun i:Nat=>i≤q.length∧Am (q.drop i)+i=Am q) (fun i:Nat=>[(11,.d (.int .i64 i))]) (fun i:Nat=>[]) (fun i:Nat=>q.length - i) 0 ?_ ?_ ?_
         · exact⟨by omega,by simp⟩
         · exact⟨[0,1,2,3],by simp⟩
         rintro I Z μ hI hS hμ i ⟨hi,hzi⟩;by_cases hend:i=Am q
         case neg =>
          have hlt:i<q.length:=by
           rcases Nat.lt_or_ge i q.length with h|h
           · exact h
           · rw[List.drop_eq_nil_of_le h,Am] at hzi;omega
          have hx1:q[i]? = some q[i]:=zz0 hlt;rw[Ha hx1] at hzi;generalize q[i]=y at *;by_cases hy:y=0
          · rw[if_pos hy] at hzi;omega
          rw[if_neg hy] at hzi;have w5:IntKind.i64.wrap ((i:Int)+1)=(i:Int)+1:=Af (by omega) (by omega);simp[zz2 hlt,hx1,hy,show (y != 0)=true by simpa using hy,w5];exact Ae hI hS hμ (i+1) ⟨by omega,by omega⟩ (by omega) ⟨[0,1,2,3],by simp⟩
         subst hend;clear hzi;by_cases hfull:Am q=q.length
         · have hRf:=E8 hR hfull;clear hR;subst hRf;have hlt:¬ Am q<q.length:=by omega
           simp[hlt,zz3 hlt,hfull];exact⟨[0,1],by simp[AA,Bs,hpf]⟩
         obtain⟨r1,r2,hC1,hC2,hR1,hR2,hR3,hp1,hp2⟩:=IB hv ih hF hR hfull hql hqt (by omega) (by omega) hdl hdk (by omega) hpc;clear hR ih hF;have hlt:Am q<q.length:=by omega
         have hx0:=hz0 hlt;clear hz0;generalize Am q=z at *;have wz:IntKind.i64.wrap ((z:Int)+1)=(z:Int)+1:=Af (by omega) (by omega);have wn:IntKind.i64.wrap (-((z:Int)+1))=-((z:Int)+1):=Af (by omega) (by omega);have hzn:¬ z=q.length:=hfull;have hzf:((z:Int)==(q.length:Int))=false:=beq_false_of_ne (fun h=>hzn (Int.ofNat.inj h));have hzg:(z==q.length)=false:=beq_false_of_ne hzn;simp[zz2 hlt,hx0,wz,wn,hzn,hzf,hzg];refine As [true,true,false,false,false,false,false,false,false,true,false,false,false,false,false,false,false,false,false,false,false,false,false,false,false,false,false,false,false,false,false,false,false,false,false,false,false,false,false,false,false,false,false,false,false,false,false,false,false,false,false,false,false,false,false,false,false,false,false,false,false,false,false,false,false,false,false,false,false,false,false,false,false,false,false,false,false,false,false,false,false,false,false,false,false,false,false,false,false,false,true,true,true] (fun i:Nat=>i=0∨(i=1∧r1.code=2)∨(i=2∧r1.code=2∧r2.code=2)) (fun i:Nat=>[(9,.d (.sl 3 (q.map (e1 Az)))),(90,.ref 2),(91,.d (.int .i64 2)),(92,.d (.int .i64 i))]) (fun i:Nat=>fun _=>if i=0 then [G4 v cls B (.d (.int .i64 (B - (left - 1:Nat)))) (.ref 1) .any,.arr 26 true (pf.map Aq),.arr 3 true [[.int .i64 (-((z:Int)+1))],[.int .i64 ((z:Int)+1)]]] else if i=1 then [G4 v cls B (.d (.int .i64 (B - (r1.left:Nat)))) (.ref 3) .any,.dead,.arr 3 true [[.int .i64 (-((z:Int)+1))],[.int .i64 ((z:Int)+1)]],.arr 26 true (r1.pf.map Aq)] else [G4 v cls B (.d (.int .i64 (B - (r2.left:Nat)))) (.ref 3) .any,.dead,.arr 3 true [[.int .i64 (-((z:Int)+1))],[.int .i64 ((z:Int)+1)]],.arr 26 true (r2.pf.map Aq)]) (fun i:Nat=>2 - i) 0 ?_ ?_ ?_
         · simp
         · exact⟨[0,1,4],by simp⟩
         rintro I2 Z2 μ2 hI2 hS2 hμ2 i (rfl|⟨rfl,hc1⟩|⟨rfl,hc1,hc2⟩)
         · simp;refine Ab (Cm dec (by omega)) ?_;simp;refine Aw AX rfl (by simp) rfl (by simp) (by simp) (by first | (simp;done)|(simp;omega)) (by simp[Bp,A4]) ?_;simp;have hcc:=hC1;by_cases hk2:r1.code=2
           · simp only[Ec,B4,AA,DN,hpf,hk2,if_true,if_false] at hcc;refine Ac (hcc) [5] [0,1] (by simp) ?_;simp[hk2,show IntKind.i64.wrap 1=1 from rfl,show IntKind.i64.wrap 2=2 from rfl];exact Ae hI2 hS2 hμ2 1 (.inr (.inl ⟨rfl,hk2⟩)) (by simp) ⟨[0,1,2,6],by simp⟩
           · have hRe:=hR1 hk2;subst hRe;have hk3:(R.code != 2)=true:=by simpa using hk2
             by_cases hk1:R.code=1
             · simp only[Ec,B4,AA,Bs,hpf,hk2,hk1,if_true,if_false] at hcc;simp only[show ((1:Int)=2)=False by simp,if_false] at hcc;refine Ac (hcc) [5] [0,1] (by simp) ?_;simp[hk2,hk3,hk1];exact⟨[0,1],by simp[AA,Bs,hpf,hk2,hk1]⟩
             · simp only[Ec,B4,AA,Bs,hpf,hk2,hk1,if_true,if_false] at hcc;refine Ac (hcc) [5] [0,1] (by simp) ?_;simp[hk2,hk3,hk1];exact⟨[0,1],by simp[AA,Bs,hpf,hk2,hk1]⟩
         · have hpn:=hp1 hc1;simp;refine Ab (Cm dec (by omega)) ?_;simp;refine Aw AX rfl (by simp) rfl (by simp) (by simp) (by first | (simp;done)|(simp;omega)) (by simp[Bp,A4]) ?_;simp;have hcc:=hC2 hc1;by_cases hk2:r2.code=2
           · simp only[Ec,B4,AA,DN,hpn,hk2,if_true,if_false] at hcc;refine Ac (hcc) [6] [0,3] (by simp) ?_;simp[hk2,show IntKind.i64.wrap 1=1 from rfl,show IntKind.i64.wrap 2=2 from rfl];exact Ae hI2 hS2 hμ2 2 (.inr (.inr ⟨rfl,hc1,hk2⟩)) (by simp) ⟨[0,1,2,7],by simp⟩
           · have hRe:=hR2 hc1 hk2;subst hRe;have hk3:(R.code != 2)=true:=by simpa using hk2
             by_cases hk1:R.code=1
             · simp only[Ec,B4,AA,Bs,hpn,hk2,hk1,if_true,if_false] at hcc;simp only[show ((1:Int)=2)=False by simp,if_false] at hcc;refine Ac (hcc) [6] [0,3] (by simp) ?_;simp[hk2,hk3,hk1];exact⟨[0,1],by simp[AA,Bs,hpf,hk2,hk1]⟩
             · simp only[Ec,B4,AA,Bs,hpn,hk2,hk1,if_true,if_false] at hcc;refine Ac (hcc) [6] [0,3] (by simp) ?_;simp[hk2,hk3,hk1];exact⟨[0,1],by simp[AA,Bs,hpf,hk2,hk1]⟩
         · obtain⟨hp3,hp4⟩:=hp2 hc1 hc2;have hRe:=hR3 hc1 hc2;subst hRe;simp;refine AS [(8,[0]),(9,[]),(10,[]),(11,[])] (by kernel_rfl) ?_;simp;refine Ab (Dq dec (by omega) hdb) ?_;simp
           first | refine BT (q:=1) AK (by exact rfl) (by simp) (by exact rfl) (by exact rfl) (by simp) (by simp) (by first | (simp;done)|(simp;omega)) ?_|refine BU AK (by exact rfl) (by simp) (by exact rfl) (by simp) (by first | (simp;done)|(simp;omega)) ?_
           simp;exact⟨[0,1,6],by simp[AA,DN,hpf,Aq,e1]⟩
end Go.Proofs.Ytnjedabjbeipeaa
