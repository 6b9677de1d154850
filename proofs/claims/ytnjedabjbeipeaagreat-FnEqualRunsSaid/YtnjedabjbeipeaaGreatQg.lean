/-
  The search on the reference's side.
  Conditions: those typed in each theorem.
-/
import Derived.Test.YtnjedabjbeipeaaGreatQf
namespace Go.Proofs.YtnjedabjbeipeaaGreat
open Go.RowKit Go.ChangeShapes Go.WideShapes
set_option linter.unusedSimpArgs false
set_option linter.unusedVariables false
set_option maxRecDepth 100000
set_option maxHeartbeats 10000000
theorem Zy {v:Nat} {par dec a b:List Int} (h1:N9 v par dec a) (h2:N9 v par dec b):a=b:=by
 rcases h1 with ⟨h,rfl⟩|⟨d,l,h,_,rfl⟩<;>rcases h2 with ⟨h',rfl⟩|⟨d',l',h',_,rfl⟩
 · rfl
 · rw[h] at h';exact absurd h'.symm (by simp)
 · rw[h'] at h;exact absurd h.symm (by simp)
 · rw[h] at h';have:=List.append_inj_right' h' rfl;simp at this;rw[this]
abbrev OD (v:Nat) (cls:List BT) (u p f:V):Ah:=.var 80 [.d (.int .i64 v),.d (Dh 26 Az cls),u,p,f]
def Fb (v:Nat) (cls:List BT) (left:Nat) (pf:List BT):List Ah :=
 if pf=[] then [OD v cls (.d (.int .i64 left)) (.nil 26) .any] else [OD v cls (.d (.int .i64 left)) (.ref 1) .any,.arr 26 true (pf.map Az)]
def JB (v:Nat) (cls:List BT) (pf:List BT) (r:HL):List Ah :=
 if pf=[] then [OD v cls (.d (.int .i64 r.left)) (.ref 1) .any,.arr 26 true (r.pf.map Az)] else [OD v cls (.d (.int .i64 r.left)) (.ref 2) .any,.dead,.arr 26 true (r.pf.map Az)]
def Ec (v:Nat) (cls:List BT) (pf:List BT) (r:HL):List Ah :=
 if pf=[] then [OD v cls .any .any (if r.code=1 then .d (Dh 3 (e1 AC) r.model) else .any)] else [OD v cls .any .any (if r.code=1 then .d (Dh 3 (e1 AC) r.model) else .any),.dead]
def B6 (v:Nat) (cls:List BT) (pf:List BT) (r:HL):List Ah:=if r.code=2 then JB v cls pf r else Ec v cls pf r
theorem Qw {v:Nat} {cls:List BT} {left:Nat} {pf:List BT} {r:HL}:Bi (Fb v cls left pf) (B6 v cls pf r):=by
 unfold Fb B6 JB Ec;by_cases h:pf=[]<;>by_cases h2:r.code=2<;>simp[h,h2,Bi,Later]
theorem SM {v:Nat} {cls:List BT} {left:Nat} {pf:List BT}:BN (Fb v cls left pf):=by
 unfold Fb;by_cases h:pf=[]<;>simp[h,BN,Ah.live]
def Kf (v:Nat) (cls:List BT) (left:Nat) (p dec:List Int) (pf:List BT) (r:HL):Prop :=
 CG Tryz.prog 46 [.ptr 0 0,.d (Dh 3 (e1 AC) p),.d (Dh 3 (e1 AC) dec)] (Fb v cls left pf) (.d (.int .i64 r.code)) (B6 v cls pf r)
theorem Wj (v:Nat) (cls:List BT) (hv:v≤400) (hc:Wp 1048576 cls) (hcl:CA v cls):∀ (k left:Nat) (own dec:List Int) (pf:List BT),left≤k→own.length=v→Dj own→(∀ x∈dec,Ep v x)→dec.length+k≤1048576→pf.length+left≤600→(∀ c∈pf,c.length≤1048576) →
 Kf v cls left own dec pf (CH cls k left own dec pf):=by
 intro k
 induction k with
 | zero =>
   intro left own dec pf h1 hol hot hdl hdk hpl hpc;obtain rfl:left=0:=by omega
   refine BA (by kernel_rfl) Tryz.func46 rfl rfl rfl Qw SM ?_;by_cases hpf:pf=[]
   · simp[Fb,B6,Ec,CH,hpf];exact⟨[0],by simp⟩
   · simp[Fb,B6,Ec,CH,hpf];exact⟨[0,1],by simp⟩
 | succ k ih =>
   intro left own dec pf h1 hol hot hdl hdk hpl hpc;have hR:CH cls (k+1) left own dec pf=CH cls (k+1) left own dec pf:=rfl
   conv at hR=>lhs;unfold CH
   have hF:=Ft hcl k;generalize CH cls (k+1) left own dec pf=R at *;generalize CH cls k=S at *
   have ih2:∀ (left:Nat) (par dec own:List Int) (pf:List BT),left≤k→(left:Int)≤600→par.length=v→Dj par→N9 v par dec own→(∀ x∈dec,Ep v x)→dec.length+k≤1048576→pf.length+left≤600→(∀ c∈pf,c.length≤1048576)→(∀ own',N9 v par dec own'→Kf v cls left own' dec pf (S left own dec pf)):=by
    intro left par dec own pf a1 a2 a3 a4 a5 a6 a7 a8 a9 own' a10;obtain rfl:=Zy a5 a10;refine ih left own dec pf a1 ?_ ?_ a6 a7 a8 a9
    · rcases a5 with ⟨_,rfl⟩|⟨_,l,_,_,rfl⟩
      · exact a3
      · rw[Ed];exact a3
    · rcases a5 with ⟨_,rfl⟩|⟨_,l,_,_,rfl⟩
      · exact a4
      · exact EY a4 l
   clear ih;have hdb:∀ x∈dec,-1048576≤x∧x≤1048576:=fun x hx=>by have:=hdl x hx;unfold Ep at this;omega
   refine BA (by kernel_rfl) Tryz.func46 rfl rfl rfl Qw SM ?_;by_cases hpf:pf=[]
   · simp[Fb,hpf];by_cases h0:left=0
     · rw[if_pos h0] at hR;subst hR h0;simp[B6,Ec,hpf];exact⟨[0],by simp⟩
     rw[if_neg h0] at hR;have wv:IntKind.i64.wrap ((left:Int) - 1)=((left - 1:Nat):Int):=by rw[Ad (by omega) (by omega)];omega
     have h0b:((left:Int)==0)=false:=beq_false_of_ne (by omega);have h0c:¬ (left:Int)=0:=by omega
     simp[h0,h0b,h0c,wv];have hP:=VY cls own _ rfl hc (by omega) hot (by rw[hol];exact hcl);have hPf:=fun q=>C2 (cls:=cls) (p:=own) (p':=q) (by rw[hol];exact hcl) hot;generalize ET cls own=Rq at *;refine Ab (hP) ?_;simp
     cases Rq with
     | none =>
       simp only at hR;subst hR;simp;refine AB [true,false,true,false,false,false,false,false,false,false,false,false,false,true,true] (fun i:Nat=>i≤dec.length) (fun i:Nat=>[(14,.d (.int .i64 i))]) (fun i:Nat=>[(2,.arr 3 true ((Dd (dec.take i)).map (e1 AC)))]) (fun i:Nat=>dec.length - i) 0 ?_ ?_ ?_
       · exact Nat.zero_le _
       · exact⟨[0,1,2],by simp[Dd]⟩
       rintro I3 Z3 μ3 hI3 hS3 hμ3 i hi;by_cases hil:i<dec.length
       · have hx1:dec[i]? = some dec[i]:=zz0 hil;have w5:IntKind.i64.wrap ((i:Int)+1)=(i:Int)+1:=Ad (by omega) (by omega);have hx:=hdb _ (ABt hil);have hn:Dd (dec.take (i+1))=Dd (dec.take i)++[-dec[i]]:=by unfold Dd;rw[Ba hx1,ABe];rfl
         have hl:(Dd (dec.take i)).length=i:=by unfold Dd;simp;omega
         generalize dec[i]=y at *;have w6:IntKind.i64.wrap (-y)=-y:=Ad (by omega) (by omega);generalize Dd (dec.take i)=ms at *;simp[zz2 hil,hx1,w6];refine Ak As rfl (by simp) rfl (by simp) (by simp) (by first | (simp;done)|(simp;omega)) (by simp[AR,AL]) ?_;simp[w5];exact Ae hI3 hS3 hμ3 (i+1) (by omega) (by omega) ⟨[0,1,4],by simp[hn,e1,AC]⟩
       have hi':i=dec.length:=by omega
       subst hi';rw[List.take_length];simp[zz3 hil,hil]
       first | refine Bs (q:=1) AM (by exact rfl) (by simp) (by exact rfl) (by exact rfl) (by simp) (by simp) (by first | (simp;done)|(simp;omega)) ?_|refine Br AM (by exact rfl) (by simp) (by exact rfl) (by simp) (by first | (simp;done)|(simp;omega)) ?_
       simp;exact⟨[0,4],by simp[B6,JB,hpf,Az,e1]⟩
     | some q =>
       obtain⟨hql,hqt,-⟩:=hPf q rfl;rw[hol] at hql;have hzl:=D3 q;have hz0:=DJ (q:=q)
       replace hR:GO S (left - 1) dec pf q=R:=hR
       simp;refine AB [true,false,true,false,false,false,false,true,false,true] (fun i:Nat=>i≤q.length∧Am (q.drop i)+i=Am q) (fun i:Nat=>[(9,.d (.int .i64 i))]) (fun i:Nat=>[]) (fun i:Nat=>q.length - i) 0 ?_ ?_ ?_
       · exact⟨by omega,by simp⟩
       · exact⟨[0,1],by simp⟩
       rintro I Z μ hI hS hμ i ⟨hi,hzi⟩;by_cases hend:i=Am q
       case neg =>
        have hlt:i<q.length:=by
         rcases Nat.lt_or_ge i q.length with h|h
         · exact h
         · rw[List.drop_eq_nil_of_le h,Am] at hzi;omega
        have hx1:q[i]? = some q[i]:=zz0 hlt;rw[FB hx1] at hzi;generalize q[i]=y at *;by_cases hy:y=0
        · rw[if_pos hy] at hzi;omega
        rw[if_neg hy] at hzi;have w5:IntKind.i64.wrap ((i:Int)+1)=(i:Int)+1:=Ad (by omega) (by omega);simp[zz2 hlt,hx1,hy,show (y != 0)=true by simpa using hy,w5];exact Ae hI hS hμ (i+1) ⟨by omega,by omega⟩ (by omega) ⟨[0,1],by simp⟩
       subst hend;clear hzi;by_cases hfull:Am q=q.length
       · have hRf:=DP hR hfull;clear hR;subst hRf;have hlt:¬ Am q<q.length:=by omega
         simp[hlt,zz3 hlt,hfull];exact⟨[0],by simp[B6,Ec,hpf]⟩
       obtain⟨r1,r2,hC1,hC2,hR1,hR2,hR3,hp1,hp2⟩:=GJ (T:=fun left par dec pf r=>∀ own,N9 v par dec own→Kf v cls left own dec pf r) (B:=600) hv ih2 hF hR hfull hql hqt (by omega) (by omega) hdl hdk (by omega) hpc;clear hR ih2 hF;have hlt:Am q<q.length:=by omega
       have hx0:=hz0 hlt
       replace hC1:=hC1 (q.set (Am q) (-1)) (.inr ⟨dec,_,rfl,⟨by omega,by omega,by omega⟩,(Ef q _).symm⟩)
       replace hC2:=fun h=>hC2 h (q.set (Am q) 1) (.inr ⟨dec,_,rfl,⟨by omega,by omega,by omega⟩,(Ee q _).symm⟩)
       clear hz0;generalize Am q=z at *;have wz:IntKind.i64.wrap ((z:Int)+1)=(z:Int)+1:=Ad (by omega) (by omega);have wn:IntKind.i64.wrap (-((z:Int)+1))=-((z:Int)+1):=Ad (by omega) (by omega);have hzn:¬ z=q.length:=hfull;have hzf:((z:Int)==(q.length:Int))=false:=beq_false_of_ne (fun h=>hzn (Int.ofNat.inj h));have hzg:(z==q.length)=false:=beq_false_of_ne hzn;have hsa:=El (q:=q) (m:=z) (v:=-1);have hsb:=El (q:=q) (m:=z) (v:=1);generalize q.set z (-1)=qa at *;generalize q.set z 1=qb at *;simp[zz2 hlt,hx0,wz,wn,hzn,hzf,hzg];refine AH [true,false,true,false,false,false,false,true,false,true,true] (fun i:Nat=>i=0∨(i=1∧r1.code=2)∨(i=2∧r1.code=2∧r2.code=2)) (fun i:Nat=>[(7,.d (.sl 3 (q.map (e1 AC)))),(10,.d (.int .i64 (2*i - 1)))]) (fun i:Nat=>fun _=>if i=0 then [OD v cls (.d (.int .i64 (left - 1:Nat))) (.nil 26) .any] else if i=1 then [OD v cls (.d (.int .i64 (r1.left:Nat))) (.ref 1) .any,.arr 26 true (r1.pf.map Az)] else [OD v cls (.d (.int .i64 (r2.left:Nat))) (.ref 1) .any,.arr 26 true (r2.pf.map Az)]) (fun i:Nat=>2 - i) 0 ?_ ?_ ?_
       · simp
       · exact⟨[0],by simp⟩
       rintro I2 Z2 μ2 hI2 hS2 hμ2 i (rfl|⟨rfl,hc1⟩|⟨rfl,hc1,hc2⟩)
       · simp;refine Ak As rfl (by simp) rfl (by simp) (by simp) (by first | (simp;done)|(simp;omega)) (by simp[AR,AL]) ?_;simp[hsa,hx0];refine Ak As rfl (by simp) rfl (by simp) (by simp) (by first | (simp;done)|(simp;omega)) (by simp[AR,AL]) ?_;simp[wz,wn];refine Ak As rfl (by simp) rfl (by simp) (by simp) (by first | (simp;done)|(simp;omega)) (by simp[AR,AL]) ?_;simp;have hcc:=hC1;by_cases hk2:r1.code=2
         · simp only[Kf,Fb,B6,JB,hpf,hk2,if_true,if_false] at hcc;refine Ac (hcc) [2,6] [0] (by simp) ?_;simp[hk2,show IntKind.i64.wrap 1=1 from rfl,show IntKind.i64.wrap 3=3 from rfl];exact Ae hI2 hS2 hμ2 1 (.inr (.inl ⟨rfl,hk2⟩)) (by simp) ⟨[0,7],by simp⟩
         · have hRe:=hR1 hk2;subst hRe;have hk3:(R.code != 2)=true:=by simpa using hk2
           by_cases hk1:R.code=1
           · simp only[Kf,Fb,B6,Ec,hpf,hk2,hk1,if_true,if_false] at hcc;simp only[show ((1:Int)=2)=False by simp,if_false] at hcc;refine Ac (hcc) [2,6] [0] (by simp) ?_;simp[hk2,hk3,hk1];exact⟨[0],by simp[B6,Ec,hpf,hk2,hk1]⟩
           · simp only[Kf,Fb,B6,Ec,hpf,hk2,hk1,if_true,if_false] at hcc;refine Ac (hcc) [2,6] [0] (by simp) ?_;simp[hk2,hk3,hk1];exact⟨[0],by simp[B6,Ec,hpf,hk2,hk1]⟩
       · have hpn:=hp1 hc1;simp;refine Ak As rfl (by simp) rfl (by simp) (by simp) (by first | (simp;done)|(simp;omega)) (by simp[AR,AL]) ?_;simp[hsb,hx0];refine Ak As rfl (by simp) rfl (by simp) (by simp) (by first | (simp;done)|(simp;omega)) (by simp[AR,AL]) ?_;simp[wz,wn];refine Ak As rfl (by simp) rfl (by simp) (by simp) (by first | (simp;done)|(simp;omega)) (by simp[AR,AL]) ?_;simp;have hcc:=hC2 hc1;by_cases hk2:r2.code=2
         · simp only[Kf,Fb,B6,JB,hpn,hk2,if_true,if_false] at hcc;refine Ac (hcc) [3,7] [0,1] (by simp) ?_;simp[hk2,show IntKind.i64.wrap 1=1 from rfl,show IntKind.i64.wrap 3=3 from rfl];exact Ae hI2 hS2 hμ2 2 (.inr (.inr ⟨rfl,hc1,hk2⟩)) (by simp) ⟨[0,8],by simp⟩
         · have hRe:=hR2 hc1 hk2;subst hRe;have hk3:(R.code != 2)=true:=by simpa using hk2
           by_cases hk1:R.code=1
           · simp only[Kf,Fb,B6,Ec,hpn,hk2,hk1,if_true,if_false] at hcc;simp only[show ((1:Int)=2)=False by simp,if_false] at hcc;refine Ac (hcc) [3,7] [0,1] (by simp) ?_;simp[hk2,hk3,hk1];exact⟨[0],by simp[B6,Ec,hpf,hk2,hk1]⟩
           · simp only[Kf,Fb,B6,Ec,hpn,hk2,hk1,if_true,if_false] at hcc;refine Ac (hcc) [3,7] [0,1] (by simp) ?_;simp[hk2,hk3,hk1];exact⟨[0],by simp[B6,Ec,hpf,hk2,hk1]⟩
       · obtain⟨hp3,hp4⟩:=hp2 hc1 hc2;have hRe:=hR3 hc1 hc2;subst hRe;simp;refine AB [true,false,true,false,false,false,false,false,false,false,false,false,false,true,true] (fun i:Nat=>i≤dec.length) (fun i:Nat=>[(14,.d (.int .i64 i))]) (fun i:Nat=>[(2,.arr 3 true ((Dd (dec.take i)).map (e1 AC)))]) (fun i:Nat=>dec.length - i) 0 ?_ ?_ ?_
         · exact Nat.zero_le _
         · exact⟨[0,1,2],by simp[Dd]⟩
         rintro I3 Z3 μ3 hI3 hS3 hμ3 i hi;by_cases hil:i<dec.length
         · have hx1:dec[i]? = some dec[i]:=zz0 hil;have w5:IntKind.i64.wrap ((i:Int)+1)=(i:Int)+1:=Ad (by omega) (by omega);have hx:=hdb _ (ABt hil);have hn:Dd (dec.take (i+1))=Dd (dec.take i)++[-dec[i]]:=by unfold Dd;rw[Ba hx1,ABe];rfl
           have hl:(Dd (dec.take i)).length=i:=by unfold Dd;simp;omega
           generalize dec[i]=y at *;have w6:IntKind.i64.wrap (-y)=-y:=Ad (by omega) (by omega);generalize Dd (dec.take i)=ms at *;simp[zz2 hil,hx1,w6];refine Ak As rfl (by simp) rfl (by simp) (by simp) (by first | (simp;done)|(simp;omega)) (by simp[AR,AL]) ?_;simp[w5];exact Ae hI3 hS3 hμ3 (i+1) (by omega) (by omega) ⟨[0,1,4],by simp[hn,e1,AC]⟩
         have hi':i=dec.length:=by omega
         subst hi';rw[List.take_length];simp[zz3 hil,hil]
         first | refine Bs (q:=1) AM (by exact rfl) (by simp) (by exact rfl) (by exact rfl) (by simp) (by simp) (by first | (simp;done)|(simp;omega)) ?_|refine Br AM (by exact rfl) (by simp) (by exact rfl) (by simp) (by first | (simp;done)|(simp;omega)) ?_
         simp;exact⟨[0,4],by simp[B6,JB,hpf,Az,e1]⟩
   · simp[Fb,hpf];by_cases h0:left=0
     · rw[if_pos h0] at hR;subst hR h0;simp[B6,Ec,hpf];exact⟨[0,1],by simp⟩
     rw[if_neg h0] at hR;have wv:IntKind.i64.wrap ((left:Int) - 1)=((left - 1:Nat):Int):=by rw[Ad (by omega) (by omega)];omega
     have h0b:((left:Int)==0)=false:=beq_false_of_ne (by omega);have h0c:¬ (left:Int)=0:=by omega
     simp[h0,h0b,h0c,wv];have hP:=VY cls own _ rfl hc (by omega) hot (by rw[hol];exact hcl);have hPf:=fun q=>C2 (cls:=cls) (p:=own) (p':=q) (by rw[hol];exact hcl) hot;generalize ET cls own=Rq at *;refine Ab (hP) ?_;simp
     cases Rq with
     | none =>
       simp only at hR;subst hR;simp;refine AB [true,false,true,false,false,false,false,false,false,false,false,false,false,true,true] (fun i:Nat=>i≤dec.length) (fun i:Nat=>[(14,.d (.int .i64 i))]) (fun i:Nat=>[(3,.arr 3 true ((Dd (dec.take i)).map (e1 AC)))]) (fun i:Nat=>dec.length - i) 0 ?_ ?_ ?_
       · exact Nat.zero_le _
       · exact⟨[0,1,2,3],by simp[Dd]⟩
       rintro I3 Z3 μ3 hI3 hS3 hμ3 i hi;by_cases hil:i<dec.length
       · have hx1:dec[i]? = some dec[i]:=zz0 hil;have w5:IntKind.i64.wrap ((i:Int)+1)=(i:Int)+1:=Ad (by omega) (by omega);have hx:=hdb _ (ABt hil);have hn:Dd (dec.take (i+1))=Dd (dec.take i)++[-dec[i]]:=by unfold Dd;rw[Ba hx1,ABe];rfl
         have hl:(Dd (dec.take i)).length=i:=by unfold Dd;simp;omega
         generalize dec[i]=y at *;have w6:IntKind.i64.wrap (-y)=-y:=Ad (by omega) (by omega);generalize Dd (dec.take i)=ms at *;simp[zz2 hil,hx1,w6];refine Ak As rfl (by simp) rfl (by simp) (by simp) (by first | (simp;done)|(simp;omega)) (by simp[AR,AL]) ?_;simp[w5];exact Ae hI3 hS3 hμ3 (i+1) (by omega) (by omega) ⟨[0,1,2,5],by simp[hn,e1,AC]⟩
       have hi':i=dec.length:=by omega
       subst hi';rw[List.take_length];simp[zz3 hil,hil]
       first | refine Bs (q:=1) AM (by exact rfl) (by simp) (by exact rfl) (by exact rfl) (by simp) (by simp) (by first | (simp;done)|(simp;omega)) ?_|refine Br AM (by exact rfl) (by simp) (by exact rfl) (by simp) (by first | (simp;done)|(simp;omega)) ?_
       simp;exact⟨[0,1,5],by simp[B6,JB,hpf,Az,e1]⟩
     | some q =>
       obtain⟨hql,hqt,-⟩:=hPf q rfl;rw[hol] at hql;have hzl:=D3 q;have hz0:=DJ (q:=q)
       replace hR:GO S (left - 1) dec pf q=R:=hR
       simp;refine AB [true,false,true,false,false,false,false,true,false,true] (fun i:Nat=>i≤q.length∧Am (q.drop i)+i=Am q) (fun i:Nat=>[(9,.d (.int .i64 i))]) (fun i:Nat=>[]) (fun i:Nat=>q.length - i) 0 ?_ ?_ ?_
       · exact⟨by omega,by simp⟩
       · exact⟨[0,1,2],by simp⟩
       rintro I Z μ hI hS hμ i ⟨hi,hzi⟩;by_cases hend:i=Am q
       case neg =>
        have hlt:i<q.length:=by
         rcases Nat.lt_or_ge i q.length with h|h
         · exact h
         · rw[List.drop_eq_nil_of_le h,Am] at hzi;omega
        have hx1:q[i]? = some q[i]:=zz0 hlt;rw[FB hx1] at hzi;generalize q[i]=y at *;by_cases hy:y=0
        · rw[if_pos hy] at hzi;omega
        rw[if_neg hy] at hzi;have w5:IntKind.i64.wrap ((i:Int)+1)=(i:Int)+1:=Ad (by omega) (by omega);simp[zz2 hlt,hx1,hy,show (y != 0)=true by simpa using hy,w5];exact Ae hI hS hμ (i+1) ⟨by omega,by omega⟩ (by omega) ⟨[0,1,2],by simp⟩
       subst hend;clear hzi;by_cases hfull:Am q=q.length
       · have hRf:=DP hR hfull;clear hR;subst hRf;have hlt:¬ Am q<q.length:=by omega
         simp[hlt,zz3 hlt,hfull];exact⟨[0,1],by simp[B6,Ec,hpf]⟩
       obtain⟨r1,r2,hC1,hC2,hR1,hR2,hR3,hp1,hp2⟩:=GJ (T:=fun left par dec pf r=>∀ own,N9 v par dec own→Kf v cls left own dec pf r) (B:=600) hv ih2 hF hR hfull hql hqt (by omega) (by omega) hdl hdk (by omega) hpc;clear hR ih2 hF;have hlt:Am q<q.length:=by omega
       have hx0:=hz0 hlt
       replace hC1:=hC1 (q.set (Am q) (-1)) (.inr ⟨dec,_,rfl,⟨by omega,by omega,by omega⟩,(Ef q _).symm⟩)
       replace hC2:=fun h=>hC2 h (q.set (Am q) 1) (.inr ⟨dec,_,rfl,⟨by omega,by omega,by omega⟩,(Ee q _).symm⟩)
       clear hz0;generalize Am q=z at *;have wz:IntKind.i64.wrap ((z:Int)+1)=(z:Int)+1:=Ad (by omega) (by omega);have wn:IntKind.i64.wrap (-((z:Int)+1))=-((z:Int)+1):=Ad (by omega) (by omega);have hzn:¬ z=q.length:=hfull;have hzf:((z:Int)==(q.length:Int))=false:=beq_false_of_ne (fun h=>hzn (Int.ofNat.inj h));have hzg:(z==q.length)=false:=beq_false_of_ne hzn;have hsa:=El (q:=q) (m:=z) (v:=-1);have hsb:=El (q:=q) (m:=z) (v:=1);generalize q.set z (-1)=qa at *;generalize q.set z 1=qb at *;simp[zz2 hlt,hx0,wz,wn,hzn,hzf,hzg];refine AH [true,false,true,false,false,false,false,true,false,true,true] (fun i:Nat=>i=0∨(i=1∧r1.code=2)∨(i=2∧r1.code=2∧r2.code=2)) (fun i:Nat=>[(7,.d (.sl 3 (q.map (e1 AC)))),(10,.d (.int .i64 (2*i - 1)))]) (fun i:Nat=>fun _=>if i=0 then [OD v cls (.d (.int .i64 (left - 1:Nat))) (.ref 1) .any,.arr 26 true (pf.map Az)] else if i=1 then [OD v cls (.d (.int .i64 (r1.left:Nat))) (.ref 2) .any,.dead,.arr 26 true (r1.pf.map Az)] else [OD v cls (.d (.int .i64 (r2.left:Nat))) (.ref 2) .any,.dead,.arr 26 true (r2.pf.map Az)]) (fun i:Nat=>2 - i) 0 ?_ ?_ ?_
       · simp
       · exact⟨[0,1],by simp⟩
       rintro I2 Z2 μ2 hI2 hS2 hμ2 i (rfl|⟨rfl,hc1⟩|⟨rfl,hc1,hc2⟩)
       · simp;refine Ak As rfl (by simp) rfl (by simp) (by simp) (by first | (simp;done)|(simp;omega)) (by simp[AR,AL]) ?_;simp[hsa,hx0];refine Ak As rfl (by simp) rfl (by simp) (by simp) (by first | (simp;done)|(simp;omega)) (by simp[AR,AL]) ?_;simp[wz,wn];refine Ak As rfl (by simp) rfl (by simp) (by simp) (by first | (simp;done)|(simp;omega)) (by simp[AR,AL]) ?_;simp;have hcc:=hC1;by_cases hk2:r1.code=2
         · simp only[Kf,Fb,B6,JB,hpf,hk2,if_true,if_false] at hcc;refine Ac (hcc) [3,7] [0,1] (by simp) ?_;simp[hk2,show IntKind.i64.wrap 1=1 from rfl,show IntKind.i64.wrap 3=3 from rfl];exact Ae hI2 hS2 hμ2 1 (.inr (.inl ⟨rfl,hk2⟩)) (by simp) ⟨[0,1,8],by simp⟩
         · have hRe:=hR1 hk2;subst hRe;have hk3:(R.code != 2)=true:=by simpa using hk2
           by_cases hk1:R.code=1
           · simp only[Kf,Fb,B6,Ec,hpf,hk2,hk1,if_true,if_false] at hcc;simp only[show ((1:Int)=2)=False by simp,if_false] at hcc;refine Ac (hcc) [3,7] [0,1] (by simp) ?_;simp[hk2,hk3,hk1];exact⟨[0,1],by simp[B6,Ec,hpf,hk2,hk1]⟩
           · simp only[Kf,Fb,B6,Ec,hpf,hk2,hk1,if_true,if_false] at hcc;refine Ac (hcc) [3,7] [0,1] (by simp) ?_;simp[hk2,hk3,hk1];exact⟨[0,1],by simp[B6,Ec,hpf,hk2,hk1]⟩
       · have hpn:=hp1 hc1;simp;refine Ak As rfl (by simp) rfl (by simp) (by simp) (by first | (simp;done)|(simp;omega)) (by simp[AR,AL]) ?_;simp[hsb,hx0];refine Ak As rfl (by simp) rfl (by simp) (by simp) (by first | (simp;done)|(simp;omega)) (by simp[AR,AL]) ?_;simp[wz,wn];refine Ak As rfl (by simp) rfl (by simp) (by simp) (by first | (simp;done)|(simp;omega)) (by simp[AR,AL]) ?_;simp;have hcc:=hC2 hc1;by_cases hk2:r2.code=2
         · simp only[Kf,Fb,B6,JB,hpn,hk2,if_true,if_false] at hcc;refine Ac (hcc) [4,8] [0,2] (by simp) ?_;simp[hk2,show IntKind.i64.wrap 1=1 from rfl,show IntKind.i64.wrap 3=3 from rfl];exact Ae hI2 hS2 hμ2 2 (.inr (.inr ⟨rfl,hc1,hk2⟩)) (by simp) ⟨[0,1,9],by simp⟩
         · have hRe:=hR2 hc1 hk2;subst hRe;have hk3:(R.code != 2)=true:=by simpa using hk2
           by_cases hk1:R.code=1
           · simp only[Kf,Fb,B6,Ec,hpn,hk2,hk1,if_true,if_false] at hcc;simp only[show ((1:Int)=2)=False by simp,if_false] at hcc;refine Ac (hcc) [4,8] [0,2] (by simp) ?_;simp[hk2,hk3,hk1];exact⟨[0,1],by simp[B6,Ec,hpf,hk2,hk1]⟩
           · simp only[Kf,Fb,B6,Ec,hpn,hk2,hk1,if_true,if_false] at hcc;refine Ac (hcc) [4,8] [0,2] (by simp) ?_;simp[hk2,hk3,hk1];exact⟨[0,1],by simp[B6,Ec,hpf,hk2,hk1]⟩
       · obtain⟨hp3,hp4⟩:=hp2 hc1 hc2;have hRe:=hR3 hc1 hc2;subst hRe;simp;refine AB [true,false,true,false,false,false,false,false,false,false,false,false,false,true,true] (fun i:Nat=>i≤dec.length) (fun i:Nat=>[(14,.d (.int .i64 i))]) (fun i:Nat=>[(3,.arr 3 true ((Dd (dec.take i)).map (e1 AC)))]) (fun i:Nat=>dec.length - i) 0 ?_ ?_ ?_
         · exact Nat.zero_le _
         · exact⟨[0,1,2,3],by simp[Dd]⟩
         rintro I3 Z3 μ3 hI3 hS3 hμ3 i hi;by_cases hil:i<dec.length
         · have hx1:dec[i]? = some dec[i]:=zz0 hil;have w5:IntKind.i64.wrap ((i:Int)+1)=(i:Int)+1:=Ad (by omega) (by omega);have hx:=hdb _ (ABt hil);have hn:Dd (dec.take (i+1))=Dd (dec.take i)++[-dec[i]]:=by unfold Dd;rw[Ba hx1,ABe];rfl
           have hl:(Dd (dec.take i)).length=i:=by unfold Dd;simp;omega
           generalize dec[i]=y at *;have w6:IntKind.i64.wrap (-y)=-y:=Ad (by omega) (by omega);generalize Dd (dec.take i)=ms at *;simp[zz2 hil,hx1,w6];refine Ak As rfl (by simp) rfl (by simp) (by simp) (by first | (simp;done)|(simp;omega)) (by simp[AR,AL]) ?_;simp[w5];exact Ae hI3 hS3 hμ3 (i+1) (by omega) (by omega) ⟨[0,1,2,5],by simp[hn,e1,AC]⟩
         have hi':i=dec.length:=by omega
         subst hi';rw[List.take_length];simp[zz3 hil,hil]
         first | refine Bs (q:=1) AM (by exact rfl) (by simp) (by exact rfl) (by exact rfl) (by simp) (by simp) (by first | (simp;done)|(simp;omega)) ?_|refine Br AM (by exact rfl) (by simp) (by exact rfl) (by simp) (by first | (simp;done)|(simp;omega)) ?_
         simp;exact⟨[0,1,5],by simp[B6,JB,hpf,Az,e1]⟩
end Go.Proofs.YtnjedabjbeipeaaGreat
