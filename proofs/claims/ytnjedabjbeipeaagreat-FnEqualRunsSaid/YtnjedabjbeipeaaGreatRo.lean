/-
  The net that compares two nets, by an abstract walk: the program.
  Conditions: those typed in each theorem.
-/
import Derived.Test.YtnjedabjbeipeaaGreatRn
namespace Go.Proofs.YtnjedabjbeipeaaGreat
open Go.RowKit Go.ChangeShapes Go.WideShapes
set_option linter.unusedSimpArgs false
set_option linter.unusedVariables false
set_option maxRecDepth 100000
set_option maxHeartbeats 10000000
def mE (a b:AK) (i:Nat):List BW:=if i=1 then [Bo a (Cq a).1] else [Bo a (Cq a).1,Bo b (Cw a b).1]
def mC (a b:AK) (i:Nat):List Ai:=if i=1 then (Cq a).2.1 else (Cw a b).2.1
abbrev Ys (I:Int) (k:Nat):Ah:=.var 28 [.d (.int .i64 I),.nil 57,.ref k,.nil 3]
def YS (I:Int) (ls:List BW) (an:List Ai) (sl:List Ah):List Ah :=
 if an=[] then sl++[.arr 26 true (ls.map Az)] else sl.set 3 (Ys I 6)++[.arr 26 true (ls.map Az),.arr 63 true (an.map At)]
theorem Mz {I:Int} {ls:List BW} {sl:List Ah}:YS I ls [] sl=sl++[.arr 26 true (ls.map Az)]:=by simp[YS]
theorem IY {I:Int} {ls:List BW} {an:List Ai} {sl:List Ah} (h:an≠[]):YS I ls an sl=sl.set 3 (Ys I 6)++[.arr 26 true (ls.map Az),.arr 63 true (an.map At)]:=by simp[YS,h]
def Pa (i:Nat):V:=if i=0 then .nil 26 else .ref 5
def eH (a b:AK) (I:Int) (i:Nat) (sl:List Ah):List Ah:=if i=0 then sl else YS I (mE a b i) (mC a b i) sl
def dN (I:Int) (p k:Nat) (pl:List Int) (an:List Ai) (sl:List Ah):List Ah :=
 if an=[] then sl.set p (.arr 3 true (pl.map (e1 AC))) else (sl.set p (.arr 3 true (pl.map (e1 AC)))).set 3 (Ys I k)++[.arr 63 true (an.map At)]
theorem Hh {I:Int} {p k:Nat} {pl:List Int} {sl:List Ah}:dN I p k pl [] sl=sl.set p (.arr 3 true (pl.map (e1 AC))):=by simp[dN]
theorem EK {I:Int} {p k:Nat} {pl:List Int} {an:List Ai} {sl:List Ah} (h:an≠[]):dN I p k pl an sl=(sl.set p (.arr 3 true (pl.map (e1 AC)))).set 3 (Ys I k)++[.arr 63 true (an.map At)]:=by simp[dN,h]
def xF (I:Int) (an:List Ai) (sl:List Ah):List Ah:=if an=[] then sl else sl.set 3 (Ys I 6)++[.arr 63 true (an.map At)]
theorem Pe {I:Int} {sl:List Ah}:xF I [] sl=sl:=by simp[xF]
theorem Gn {I:Int} {an:List Ai} {sl:List Ah} (h:an≠[]):xF I an sl=sl.set 3 (Ys I 6)++[.arr 63 true (an.map At)]:=by simp[xF,h]
theorem mO {an:List Ai} {a b:Int} (h:an≠[]):Ar an a b≠[]:=by
 unfold Ar;split
 · simp
 · exact h
theorem FD {an:List Ai} {a b:Int} (h:Ba an a b=true):Ar an a b≠[]:=by unfold Ar;rw[if_pos h];simp
theorem Ei {an:List Ai} {a b:Int} (h:Ba an a b=false):Ar an a b=an:=by unfold Ar;rw[if_neg (by simp[h])]
theorem RU {α:Type} {xs:List α} (h:0<xs.length):xs≠[]:=fun e=>by rw[e] at h;simp at h
theorem Ya (a b:AK) (ha:CF 1048576 a) (hb:CF 1048576 b):BA Tryz.prog 20 [GD a,GD b] (.tup [GD (Fx a b),.d (.bool (Ek a b))]):=by
 have hO:Ek a b=(G3 a b&&(Cq a).2.2&&(Cw a b).2.2&&(DN a b).2.2):=rfl;have hG:Fx a b=if Ek a b=true then (a.1+(a.2.1.length:Int),[],(DN a b).2.1,[(DN a b).1]) else (0,[],[],[]):=rfl;have kc:=QI a b ha hb;generalize Fx a b=G at *;generalize Ek a b=O at *;refine B7 (by kernel_rfl) Tryz.func20 rfl rfl rfl ?_;simp[Ao]
 cases hcb:G3 a b with
 | false =>
   rw[hcb] at kc hO;simp only[Bool.false_and] at hO;rw[hO,if_neg (by simp)] at hG;subst hO hG;refine Ab (kc) ?_;simp[Ao]
 | true =>
 rw[hcb] at kc hO;simp only[Bool.true_and] at hO;obtain⟨hoa,hob,h1,h2,h3,h4,hfb,hrl⟩:=Hy hcb;obtain⟨⟨n1,n2,n3,n4,n5,n6⟩,-,-,-⟩:=AA hoa;obtain⟨⟨m1,m2,m3,m4,m5,m6⟩,-,-,-⟩:=AA hob;obtain⟨hFa,hga,hNa,-⟩:=A9 hoa;obtain⟨hFb,hgb,hNb,-⟩:=A9 hob;have hNea:=Br a;have hNeb:=Br b;obtain⟨I,hI⟩:∃ I,a.1+(a.2.1.length:Int)=I:=⟨_,rfl⟩;have w1:IntKind.i64.wrap (a.1+(a.2.1.length:Int))=I:=by rw[←hI];exact Ad (by omega) (by omega)
 rw[hI] at hG;have hI20:0≤I∧I≤20:=by omega
 have hfaI:1+I=(Aa a:Int):=by omega
 have hfbI:1+I=(Aa b:Int):=by omega
 refine Ab (kc) ?_;simp[Ao,w1];refine AJ [false,false,false,false,true,false,true,true,false,false,false,false,false,false,false,false,false,false,false,false,false,false,false,false,false,false,false,false,false,false,false,true,true,true] (fun i:Nat=>i≤2∧(0<i→(Cq a).2.2=true)∧(1<i→(Cw a b).2.2=true)) (fun i:Nat=>[(7,Pa i),(33,.d (.int .i64 i))]) (fun i:Nat=>eH a b I i) (fun i:Nat=>2 - i) 0 ?_ ?_ ?_
 · exact⟨by omega,by omega,by omega⟩
 · exact⟨[0,1,2,3,4],by simp[eH,Pa]⟩
 rintro J S μ hJ hS hμ i ⟨hi,hi1,hi2⟩;have p1:=fun i hi=>Hu (x:=a) hoa (an0:=[]) (by simp) rfl (i:=i) hi;have p2:=fun i hi=>Hu (x:=b) hob (an0:=(Cq a).2.1) (p1 a.2.2.1.length (Nat.le_refl _)).1.an (by rw[hfb];exact (p1 a.2.2.1.length (Nat.le_refl _)).1.ok) (i:=i) hi;rcases (show i=0∨i=1∨i=2 by omega) with rfl|rfl|rfl
 · simp[eH,Pa,show (0:Int)<2 by omega,Ao];refine Ab (Ju a ha hoa) ?_;simp[Ao];obtain⟨imS,himS⟩:∃ f:Nat→List Int×List Ai×Bool,f=Dk a []:=⟨_,rfl⟩;refine AJ [false,false,false,false,true,false,true,true,false,true,true,false,false,false,false,false,false,false,false,false,false,false,false,false,false,false,false,false,false,false,false,true,true,true,false,false,false,false,false,false,true,true,true] (fun j:Nat=>j≤a.2.2.1.length∧(Dk a [] j).2.2=true) (fun j:Nat=>[(42,.d (.int .i64 j))]) (fun j:Nat=>dN I 6 7 (EG (Dk a [] j).1 (A0 a)) (Dk a [] j).2.1) (fun j:Nat=>a.2.2.1.length - j) 0 ?_ ?_ ?_
   · exact⟨Nat.zero_le _,rfl⟩
   · exact⟨[0,1,2,3,4,5,6],by simp[Dk,B5,Hh]⟩
   rintro J2 S2 μ2 hJ2 hS2 hμ2 j ⟨hj,hjo⟩;obtain⟨q1,q2⟩:=p1 j hj;obtain⟨⟨to,an,bb⟩,hst⟩:∃ s,Dk a [] j=s:=⟨_,rfl⟩;rw[hst] at hjo q1 q2;simp only at hjo q2;obtain rfl:bb=true:=hjo;have hl:=q1.len rfl;have hpl:=q1.pl;have ha3:=q1.an;simp only at hl hpl ha3;rw[hst];by_cases hlt:j<a.2.2.1.length
   case neg =>
    obtain rfl:j=a.2.2.1.length:=by omega
    have hfull:Cq a=(to,an,true):=hst;have hpall:EG (to,an,true).1 (A0 a)=to:=QY (by simp only;omega);rw[hpall];have hroots:=Jz a ha n3
    have hrlen:(Ay a).length≤1048576:=by
     have h1:=Gr (x:=a) (k:=a.2.1.length) (M:=4) (fun s hs=>DP ((AA hoa).2.1 s hs));rw[Gi] at h1;omega
    have hmap:=Kf to (Ay a) (by omega) hrlen (fun l hl=>by have:=Pu hoa hl;unfold U7 at this;omega);have hrM:(Ay a).map (Aq to)=Bo a (Cq a).1:=by rw[hfull];rfl
    rw[hrM] at hmap;by_cases hne:an=[]
    · subst hne;rw[Hh];simp[BH hlt,hlt];refine Ab (hroots) ?_;simp[Ao];refine Ab (hmap) ?_;simp
      first | refine Bu (q:=1) AM (by exact rfl) (by simp) (by exact rfl) (by exact rfl) (by simp) (by simp) (by first | (simp;done)|(simp;omega)) ?_|refine Bt AM (by exact rfl) (by simp) (by exact rfl) (by simp) (by first | (simp;done)|(simp;omega)) ?_
      simp[show IntKind.i64.wrap 1=1 from rfl,show IntKind.i64.wrap 2=2 from rfl];exact Ae hJ hS hμ 1 ⟨by omega,fun _=>by rw[hfull],fun h=>by omega⟩ (by omega) ⟨[0,1,2,3,4,10],by simp[eH,Pa,mE,mC,hfull,Mz,Az,e1]⟩
    · rw[EK hne];simp[BH hlt,hlt];refine Ab (hroots) ?_;simp[Ao];refine Ab (hmap) ?_;simp
      first | refine Bu (q:=1) AM (by exact rfl) (by simp) (by exact rfl) (by exact rfl) (by simp) (by simp) (by first | (simp;done)|(simp;omega)) ?_|refine Bt AM (by exact rfl) (by simp) (by exact rfl) (by simp) (by first | (simp;done)|(simp;omega)) ?_
      simp[show IntKind.i64.wrap 1=1 from rfl,show IntKind.i64.wrap 2=2 from rfl];exact Ae hJ hS hμ 1 ⟨by omega,fun _=>by rw[hfull],fun h=>by omega⟩ (by omega) ⟨[0,1,2,3,4,11,7],by simp[eH,Pa,mE,mC,hfull,IY hne,Az,e1]⟩
   obtain⟨hA,a1,a2,a3,a4,a5,a6⟩:=C3 hoa (v:=Aa a+j) (by omega) (by omega);rw[Nat.add_sub_cancel_left] at hA;have hstp:=NB hst;generalize Aj a (Aa a+j)=A at *;have hL:(At A).length=2:=rfl;have r1:=Bp (l:=A.1) (BK hpl (by omega) (A.1 / 2)) (by omega);have r2:=Bp (l:=A.2) (BK hpl (by omega) (A.2 / 2)) (by omega);have hplen:=Mg (p:=to) (n:=A0 a) (by omega);have kA:=FO (EG to (A0 a)) A.1 (by omega) (by omega);have kB:=FO (EG to (A0 a)) A.2 (by omega) (by omega);rw[Q0 (by omega)] at kA kB;have hset:=fun v:Int=>KT (p:=to) (n:=A0 a) (v:=v) (by omega);have hat:(EG to (A0 a))[to.length]? = some (A3 (EG to (A0 a)) to.length):=Cc (k:=to.length) (by omega);have w5:IntKind.i64.wrap (1+a.1+(a.2.1.length:Int)+(j:Int))=(to.length:Int):=by rw[Ad (by omega) (by omega)];omega
   have w6:IntKind.i64.wrap ((j:Int)+1)=(j:Int)+1:=Ad (by omega) (by omega);generalize Aq to A.1=x1 at *;generalize Aq to A.2=x2 at *;have hneg:=MX (fa:=Aa a) (an:=an) (a:=x1) (b:=x2) (by omega) (by omega) (by omega);generalize A3 (EG to (A0 a)) to.length=pv at *;by_cases hne:an=[]
   · subst hne;rw[Hh]
     cases hm:Ba [] x1 x2
     · have c:=Dz I (Aa a) x1 x2 hI20 hfaI (by omega) (by omega) hm;rw[Ei hm] at hstp;generalize hvv:AZ (Aa a) [] x1 x2=v at *;simp[A8 hlt,hA,hL,At];refine AH 8 (by kernel_rfl) ?_;simp;refine Ab (kA) ?_;simp;refine Ab (kB) ?_;simp;refine Ac (c) [] [3] (by simp) ?_;simp;by_cases hv:v<0
       · rw[if_pos hv] at hstp;have hff:=DA (show (Dk a [] (j+1)).2.2=false by rw[hstp]) (a.2.2.1.length - (j+1));rw[show j+1+(a.2.2.1.length - (j+1))=a.2.2.1.length by omega] at hff;have hff2:(Cq a).2.2=false:=hff;rw[hff2] at hO;simp only[Bool.false_and,Bool.and_false] at hO;rw[hO,if_neg (by simp)] at hG;subst hO hG;simp[hv,A8 hv,show ¬ 0≤v by omega,Ao]
       rw[if_neg hv] at hstp;simp[hv,BH hv,show 0≤v by omega];refine Ab (BL a ⟨n1,n2⟩ n3) ?_;simp[w5,w6,hset,hat,Ao];exact Ae hJ2 hS2 hμ2 (j+1) ⟨by omega,by rw[hstp]⟩ (by omega) ⟨[0,1,2,3,4,5,6],by simp[hstp,Hh]⟩
     · have c:=D0 I (Aa a) x1 x2 hI20 hfaI (by omega) (by omega) hm;generalize hvv:AZ (Aa a) [] x1 x2=v at *;simp[A8 hlt,hA,hL,At];refine AH 8 (by kernel_rfl) ?_;simp;refine Ab (kA) ?_;simp;refine Ab (kB) ?_;simp;refine Ac (c) [] [3] (by simp) ?_;simp;by_cases hv:v<0
       · rw[if_pos hv] at hstp;have hff:=DA (show (Dk a [] (j+1)).2.2=false by rw[hstp]) (a.2.2.1.length - (j+1));rw[show j+1+(a.2.2.1.length - (j+1))=a.2.2.1.length by omega] at hff;have hff2:(Cq a).2.2=false:=hff;rw[hff2] at hO;simp only[Bool.false_and,Bool.and_false] at hO;rw[hO,if_neg (by simp)] at hG;subst hO hG;simp[hv,A8 hv,show ¬ 0≤v by omega,Ao]
       rw[if_neg hv] at hstp;simp[hv,BH hv,show 0≤v by omega];refine Ab (BL a ⟨n1,n2⟩ n3) ?_;simp[w5,w6,hset,hat,Ao];exact Ae hJ2 hS2 hμ2 (j+1) ⟨by omega,by rw[hstp]⟩ (by omega) ⟨[0,1,2,3,4,5,6,8],by simp[hstp,EK (FD hm)]⟩
   · rw[EK hne]
     cases hm:Ba an x1 x2
     · have c:=B6 I (Aa a) an x1 x2 hI20 hfaI ha3 (by omega) (by omega) hm;rw[Ei hm] at hstp;generalize hvv:AZ (Aa a) an x1 x2=v at *;simp[A8 hlt,hA,hL,At];refine AH 8 (by kernel_rfl) ?_;simp;refine Ab (kA) ?_;simp;refine Ab (kB) ?_;simp;refine Ac (c) [] [3,7] (by simp) ?_;simp;by_cases hv:v<0
       · rw[if_pos hv] at hstp;have hff:=DA (show (Dk a [] (j+1)).2.2=false by rw[hstp]) (a.2.2.1.length - (j+1));rw[show j+1+(a.2.2.1.length - (j+1))=a.2.2.1.length by omega] at hff;have hff2:(Cq a).2.2=false:=hff;rw[hff2] at hO;simp only[Bool.false_and,Bool.and_false] at hO;rw[hO,if_neg (by simp)] at hG;subst hO hG;simp[hv,A8 hv,show ¬ 0≤v by omega,Ao]
       rw[if_neg hv] at hstp;simp[hv,BH hv,show 0≤v by omega];refine Ab (BL a ⟨n1,n2⟩ n3) ?_;simp[w5,w6,hset,hat,Ao];exact Ae hJ2 hS2 hμ2 (j+1) ⟨by omega,by rw[hstp]⟩ (by omega) ⟨[0,1,2,3,4,5,6,7],by simp[hstp,EK hne]⟩
     · have c:=Ch I (Aa a) an x1 x2 hI20 hfaI ha3 (by omega) (by omega) hm;generalize hvv:AZ (Aa a) an x1 x2=v at *;simp[A8 hlt,hA,hL,At];refine AH 8 (by kernel_rfl) ?_;simp;refine Ab (kA) ?_;simp;refine Ab (kB) ?_;simp;refine Ac (c) [] [3,7] (by simp) ?_;simp;by_cases hv:v<0
       · rw[if_pos hv] at hstp;have hff:=DA (show (Dk a [] (j+1)).2.2=false by rw[hstp]) (a.2.2.1.length - (j+1));rw[show j+1+(a.2.2.1.length - (j+1))=a.2.2.1.length by omega] at hff;have hff2:(Cq a).2.2=false:=hff;rw[hff2] at hO;simp only[Bool.false_and,Bool.and_false] at hO;rw[hO,if_neg (by simp)] at hG;subst hO hG;simp[hv,A8 hv,show ¬ 0≤v by omega,Ao]
       rw[if_neg hv] at hstp;simp[hv,BH hv,show 0≤v by omega];refine Ab (BL a ⟨n1,n2⟩ n3) ?_;simp[w5,w6,hset,hat,Ao];exact Ae hJ2 hS2 hμ2 (j+1) ⟨by omega,by rw[hstp]⟩ (by omega) ⟨[0,1,2,3,4,5,6,9],by simp[hstp,EK (FD hm)]⟩
 · have hf1:=hi1 (by omega);by_cases hane:(Cq a).2.1=[]
   · have hsl:∀ sl,eH a b I 1 sl=YS I [Bo a (Cq a).1] [] sl:=fun sl=>by simp[eH,mE,mC,hane]
     rw[hsl,Mz];simp[Pa,show (1:Int)<2 by omega,Ao];refine Ab (Ju b hb hob) ?_;simp[Ao];obtain⟨imS,himS⟩:∃ f:Nat→List Int×List Ai×Bool,f=Dk b (Cq a).2.1:=⟨_,rfl⟩;refine AJ [false,false,false,false,true,false,true,true,false,true,true,false,false,false,false,false,false,false,false,false,false,false,false,false,false,false,false,false,false,false,false,true,true,true,false,false,false,false,false,false,true,true,true] (fun j:Nat=>j≤b.2.2.1.length∧(Dk b (Cq a).2.1 j).2.2=true) (fun j:Nat=>[(42,.d (.int .i64 j))]) (fun j:Nat=>dN I 7 8 (EG (Dk b (Cq a).2.1 j).1 (A0 b)) (Dk b (Cq a).2.1 j).2.1) (fun j:Nat=>b.2.2.1.length - j) 0 ?_ ?_ ?_
     · exact⟨Nat.zero_le _,rfl⟩
     · exact⟨[0,1,2,3,4,5,6,7],by simp[Dk,B5,hane,Hh]⟩
     rintro J2 S2 μ2 hJ2 hS2 hμ2 j ⟨hj,hjo⟩;obtain⟨q1,q2⟩:=p2 j hj;obtain⟨⟨to,an,bb⟩,hst⟩:∃ s,Dk b (Cq a).2.1 j=s:=⟨_,rfl⟩;rw[hst] at hjo q1 q2;simp only at hjo q2;obtain rfl:bb=true:=hjo;have hl:=q1.len rfl;have hpl:=q1.pl;have ha3:=q1.an;simp only at hl hpl ha3;rw[hst];by_cases hlt:j<b.2.2.1.length
     case neg =>
      obtain rfl:j=b.2.2.1.length:=by omega
      have hfull:Cw a b=(to,an,true):=hst;have hpall:EG (to,an,true).1 (A0 b)=to:=QY (by simp only;omega);rw[hpall];have hroots:=Jz b hb m3
      have hrlen:(Ay b).length≤1048576:=by
       have h1:=Gr (x:=b) (k:=b.2.1.length) (M:=4) (fun s hs=>DP ((AA hob).2.1 s hs));rw[Gi] at h1;omega
      have hmap:=Kf to (Ay b) (by omega) hrlen (fun l hl=>by have:=Pu hob hl;unfold U7 at this;omega);have hrM:(Ay b).map (Aq to)=Bo b (Cw a b).1:=by rw[hfull];rfl
      rw[hrM] at hmap;by_cases hne:an=[]
      · subst hne;rw[Hh];simp[BH hlt,hlt];refine Ab (hroots) ?_;simp[Ao];refine Ab (hmap) ?_;simp
        first | refine Bu (q:=1) AM (by exact rfl) (by simp) (by exact rfl) (by exact rfl) (by simp) (by simp) (by first | (simp;done)|(simp;omega)) ?_|refine Bt AM (by exact rfl) (by simp) (by exact rfl) (by simp) (by first | (simp;done)|(simp;omega)) ?_
        simp[show IntKind.i64.wrap 1=1 from rfl,show IntKind.i64.wrap 2=2 from rfl];exact Ae hJ hS hμ 2 ⟨by omega,fun _=>hi1 (by omega),fun h=>by rw[hfull]⟩ (by omega) ⟨[0,1,2,3,4,11],by simp[eH,Pa,mE,mC,hfull,Mz,Az,e1]⟩
      · rw[EK hne];simp[BH hlt,hlt];refine Ab (hroots) ?_;simp[Ao];refine Ab (hmap) ?_;simp
        first | refine Bu (q:=1) AM (by exact rfl) (by simp) (by exact rfl) (by exact rfl) (by simp) (by simp) (by first | (simp;done)|(simp;omega)) ?_|refine Bt AM (by exact rfl) (by simp) (by exact rfl) (by simp) (by first | (simp;done)|(simp;omega)) ?_
        simp[show IntKind.i64.wrap 1=1 from rfl,show IntKind.i64.wrap 2=2 from rfl];exact Ae hJ hS hμ 2 ⟨by omega,fun _=>hi1 (by omega),fun h=>by rw[hfull]⟩ (by omega) ⟨[0,1,2,3,4,12,8],by simp[eH,Pa,mE,mC,hfull,IY hne,Az,e1]⟩
     obtain⟨hA,a1,a2,a3,a4,a5,a6⟩:=C3 hob (v:=Aa b+j) (by omega) (by omega);rw[Nat.add_sub_cancel_left] at hA;have hstp:=NB hst;generalize Aj b (Aa b+j)=A at *;have hL:(At A).length=2:=rfl;have r1:=Bp (l:=A.1) (BK hpl (by omega) (A.1 / 2)) (by omega);have r2:=Bp (l:=A.2) (BK hpl (by omega) (A.2 / 2)) (by omega);have hplen:=Mg (p:=to) (n:=A0 b) (by omega);have kA:=FO (EG to (A0 b)) A.1 (by omega) (by omega);have kB:=FO (EG to (A0 b)) A.2 (by omega) (by omega);rw[Q0 (by omega)] at kA kB;have hset:=fun v:Int=>KT (p:=to) (n:=A0 b) (v:=v) (by omega);have hat:(EG to (A0 b))[to.length]? = some (A3 (EG to (A0 b)) to.length):=Cc (k:=to.length) (by omega);have w5:IntKind.i64.wrap (1+b.1+(b.2.1.length:Int)+(j:Int))=(to.length:Int):=by rw[Ad (by omega) (by omega)];omega
     have w6:IntKind.i64.wrap ((j:Int)+1)=(j:Int)+1:=Ad (by omega) (by omega);generalize Aq to A.1=x1 at *;generalize Aq to A.2=x2 at *;have hneg:=MX (fa:=Aa b) (an:=an) (a:=x1) (b:=x2) (by omega) (by omega) (by omega);generalize A3 (EG to (A0 b)) to.length=pv at *;by_cases hne:an=[]
     · subst hne;rw[Hh]
       cases hm:Ba [] x1 x2
       · have c:=Dz I (Aa b) x1 x2 hI20 hfbI (by omega) (by omega) hm;rw[Ei hm] at hstp;generalize hvv:AZ (Aa b) [] x1 x2=v at *;simp[A8 hlt,hA,hL,At];refine AH 8 (by kernel_rfl) ?_;simp;refine Ab (kA) ?_;simp;refine Ab (kB) ?_;simp;refine Ac (c) [] [3] (by simp) ?_;simp;by_cases hv:v<0
         · rw[if_pos hv] at hstp;have hff:=DA (show (Dk b (Cq a).2.1 (j+1)).2.2=false by rw[hstp]) (b.2.2.1.length - (j+1));rw[show j+1+(b.2.2.1.length - (j+1))=b.2.2.1.length by omega] at hff;have hff2:(Cw a b).2.2=false:=hff;rw[hff2] at hO;simp only[Bool.false_and,Bool.and_false] at hO;rw[hO,if_neg (by simp)] at hG;subst hO hG;simp[hv,A8 hv,show ¬ 0≤v by omega,Ao]
         rw[if_neg hv] at hstp;simp[hv,BH hv,show 0≤v by omega];refine Ab (BL b ⟨m1,m2⟩ m3) ?_;simp[w5,w6,hset,hat,Ao];exact Ae hJ2 hS2 hμ2 (j+1) ⟨by omega,by rw[hstp]⟩ (by omega) ⟨[0,1,2,3,4,5,6,7],by simp[hstp,Hh]⟩
       · have c:=D0 I (Aa b) x1 x2 hI20 hfbI (by omega) (by omega) hm;generalize hvv:AZ (Aa b) [] x1 x2=v at *;simp[A8 hlt,hA,hL,At];refine AH 8 (by kernel_rfl) ?_;simp;refine Ab (kA) ?_;simp;refine Ab (kB) ?_;simp;refine Ac (c) [] [3] (by simp) ?_;simp;by_cases hv:v<0
         · rw[if_pos hv] at hstp;have hff:=DA (show (Dk b (Cq a).2.1 (j+1)).2.2=false by rw[hstp]) (b.2.2.1.length - (j+1));rw[show j+1+(b.2.2.1.length - (j+1))=b.2.2.1.length by omega] at hff;have hff2:(Cw a b).2.2=false:=hff;rw[hff2] at hO;simp only[Bool.false_and,Bool.and_false] at hO;rw[hO,if_neg (by simp)] at hG;subst hO hG;simp[hv,A8 hv,show ¬ 0≤v by omega,Ao]
         rw[if_neg hv] at hstp;simp[hv,BH hv,show 0≤v by omega];refine Ab (BL b ⟨m1,m2⟩ m3) ?_;simp[w5,w6,hset,hat,Ao];exact Ae hJ2 hS2 hμ2 (j+1) ⟨by omega,by rw[hstp]⟩ (by omega) ⟨[0,1,2,3,4,5,6,7,9],by simp[hstp,EK (FD hm)]⟩
     · rw[EK hne]
       cases hm:Ba an x1 x2
       · have c:=B6 I (Aa b) an x1 x2 hI20 hfbI ha3 (by omega) (by omega) hm;rw[Ei hm] at hstp;generalize hvv:AZ (Aa b) an x1 x2=v at *;simp[A8 hlt,hA,hL,At];refine AH 8 (by kernel_rfl) ?_;simp;refine Ab (kA) ?_;simp;refine Ab (kB) ?_;simp;refine Ac (c) [] [3,8] (by simp) ?_;simp;by_cases hv:v<0
         · rw[if_pos hv] at hstp;have hff:=DA (show (Dk b (Cq a).2.1 (j+1)).2.2=false by rw[hstp]) (b.2.2.1.length - (j+1));rw[show j+1+(b.2.2.1.length - (j+1))=b.2.2.1.length by omega] at hff;have hff2:(Cw a b).2.2=false:=hff;rw[hff2] at hO;simp only[Bool.false_and,Bool.and_false] at hO;rw[hO,if_neg (by simp)] at hG;subst hO hG;simp[hv,A8 hv,show ¬ 0≤v by omega,Ao]
         rw[if_neg hv] at hstp;simp[hv,BH hv,show 0≤v by omega];refine Ab (BL b ⟨m1,m2⟩ m3) ?_;simp[w5,w6,hset,hat,Ao];exact Ae hJ2 hS2 hμ2 (j+1) ⟨by omega,by rw[hstp]⟩ (by omega) ⟨[0,1,2,3,4,5,6,7,8],by simp[hstp,EK hne]⟩
       · have c:=Ch I (Aa b) an x1 x2 hI20 hfbI ha3 (by omega) (by omega) hm;generalize hvv:AZ (Aa b) an x1 x2=v at *;simp[A8 hlt,hA,hL,At];refine AH 8 (by kernel_rfl) ?_;simp;refine Ab (kA) ?_;simp;refine Ab (kB) ?_;simp;refine Ac (c) [] [3,8] (by simp) ?_;simp;by_cases hv:v<0
         · rw[if_pos hv] at hstp;have hff:=DA (show (Dk b (Cq a).2.1 (j+1)).2.2=false by rw[hstp]) (b.2.2.1.length - (j+1));rw[show j+1+(b.2.2.1.length - (j+1))=b.2.2.1.length by omega] at hff;have hff2:(Cw a b).2.2=false:=hff;rw[hff2] at hO;simp only[Bool.false_and,Bool.and_false] at hO;rw[hO,if_neg (by simp)] at hG;subst hO hG;simp[hv,A8 hv,show ¬ 0≤v by omega,Ao]
         rw[if_neg hv] at hstp;simp[hv,BH hv,show 0≤v by omega];refine Ab (BL b ⟨m1,m2⟩ m3) ?_;simp[w5,w6,hset,hat,Ao];exact Ae hJ2 hS2 hμ2 (j+1) ⟨by omega,by rw[hstp]⟩ (by omega) ⟨[0,1,2,3,4,5,6,7,10],by simp[hstp,EK (FD hm)]⟩
   · have hsl:∀ sl,eH a b I 1 sl=sl.set 3 (Ys I 6)++[.arr 26 true ([Bo a (Cq a).1].map Az),.arr 63 true ((Cq a).2.1.map At)]:=fun sl=>by simp[eH,mE,mC,IY hane]
     rw[hsl];simp[Pa,show (1:Int)<2 by omega,Ao];refine Ab (Ju b hb hob) ?_;simp[Ao];obtain⟨imS,himS⟩:∃ f:Nat→List Int×List Ai×Bool,f=Dk b (Cq a).2.1:=⟨_,rfl⟩;refine AB [false,false,false,false,true,false,true,true,false,true,true,false,false,false,false,false,false,false,false,false,false,false,false,false,false,false,false,false,false,false,false,true,true,true,false,false,false,false,false,false,true,true,true] (fun j:Nat=>j≤b.2.2.1.length∧(Dk b (Cq a).2.1 j).2.2=true∧(Dk b (Cq a).2.1 j).2.1≠[]) (fun j:Nat=>[(42,.d (.int .i64 j))]) (fun j:Nat=>[(8,.arr 3 true ((EG (Dk b (Cq a).2.1 j).1 (A0 b)).map (e1 AC))),(6,.arr 63 true ((Dk b (Cq a).2.1 j).2.1.map At))]) (fun j:Nat=>b.2.2.1.length - j) 0 ?_ ?_ ?_
     · exact⟨Nat.zero_le _,rfl,hane⟩
     · exact⟨[0,1,2,3,4,5,6,7,8],by simp[Dk,B5]⟩
     rintro J2 S2 μ2 hJ2 hS2 hμ2 j ⟨hj,hjo,hne0⟩;obtain⟨q1,q2⟩:=p2 j hj;obtain⟨⟨to,an,bb⟩,hst⟩:∃ s,Dk b (Cq a).2.1 j=s:=⟨_,rfl⟩;rw[hst] at hjo q1 q2 hne0;simp only at hjo q2 hne0;obtain rfl:bb=true:=hjo;have hl:=q1.len rfl;have hpl:=q1.pl;have ha3:=q1.an;simp only at hl hpl ha3;rw[hst];by_cases hlt:j<b.2.2.1.length
     case neg =>
      obtain rfl:j=b.2.2.1.length:=by omega
      have hfull:Cw a b=(to,an,true):=hst;have hpall:EG (to,an,true).1 (A0 b)=to:=QY (by simp only;omega);rw[hpall];have hroots:=Jz b hb m3
      have hrlen:(Ay b).length≤1048576:=by
       have h1:=Gr (x:=b) (k:=b.2.1.length) (M:=4) (fun s hs=>DP ((AA hob).2.1 s hs));rw[Gi] at h1;omega
      have hmap:=Kf to (Ay b) (by omega) hrlen (fun l hl=>by have:=Pu hob hl;unfold U7 at this;omega);have hrM:(Ay b).map (Aq to)=Bo b (Cw a b).1:=by rw[hfull];rfl
      rw[hrM] at hmap;have hne:an≠[]:=hne0;simp[BH hlt,hlt];refine Ab (hroots) ?_;simp[Ao];refine Ab (hmap) ?_;simp
      first | refine Bu (q:=1) AM (by exact rfl) (by simp) (by exact rfl) (by exact rfl) (by simp) (by simp) (by first | (simp;done)|(simp;omega)) ?_|refine Bt AM (by exact rfl) (by simp) (by exact rfl) (by simp) (by first | (simp;done)|(simp;omega)) ?_
      simp[show IntKind.i64.wrap 1=1 from rfl,show IntKind.i64.wrap 2=2 from rfl];exact Ae hJ hS hμ 2 ⟨by omega,fun _=>hi1 (by omega),fun h=>by rw[hfull]⟩ (by omega) ⟨[0,1,2,3,4,12,6],by simp[eH,Pa,mE,mC,hfull,IY hne,Az,e1]⟩
     obtain⟨hA,a1,a2,a3,a4,a5,a6⟩:=C3 hob (v:=Aa b+j) (by omega) (by omega);rw[Nat.add_sub_cancel_left] at hA;have hstp:=NB hst;generalize Aj b (Aa b+j)=A at *;have hL:(At A).length=2:=rfl;have r1:=Bp (l:=A.1) (BK hpl (by omega) (A.1 / 2)) (by omega);have r2:=Bp (l:=A.2) (BK hpl (by omega) (A.2 / 2)) (by omega);have hplen:=Mg (p:=to) (n:=A0 b) (by omega);have kA:=FO (EG to (A0 b)) A.1 (by omega) (by omega);have kB:=FO (EG to (A0 b)) A.2 (by omega) (by omega);rw[Q0 (by omega)] at kA kB;have hset:=fun v:Int=>KT (p:=to) (n:=A0 b) (v:=v) (by omega);have hat:(EG to (A0 b))[to.length]? = some (A3 (EG to (A0 b)) to.length):=Cc (k:=to.length) (by omega);have w5:IntKind.i64.wrap (1+b.1+(b.2.1.length:Int)+(j:Int))=(to.length:Int):=by rw[Ad (by omega) (by omega)];omega
     have w6:IntKind.i64.wrap ((j:Int)+1)=(j:Int)+1:=Ad (by omega) (by omega);generalize Aq to A.1=x1 at *;generalize Aq to A.2=x2 at *;have hneg:=MX (fa:=Aa b) (an:=an) (a:=x1) (b:=x2) (by omega) (by omega) (by omega);generalize A3 (EG to (A0 b)) to.length=pv at *
     cases hm:Ba an x1 x2
     · have c:=B6 I (Aa b) an x1 x2 hI20 hfbI ha3 (by omega) (by omega) hm;rw[Ei hm] at hstp;generalize hvv:AZ (Aa b) an x1 x2=v at *;simp[A8 hlt,hA,hL,At];refine AH 8 (by kernel_rfl) ?_;simp;refine Ab (kA) ?_;simp;refine Ab (kB) ?_;simp;refine Ac (c) [] [3,6] (by simp) ?_;simp;by_cases hv:v<0
       · rw[if_pos hv] at hstp;have hff:=DA (show (Dk b (Cq a).2.1 (j+1)).2.2=false by rw[hstp]) (b.2.2.1.length - (j+1));rw[show j+1+(b.2.2.1.length - (j+1))=b.2.2.1.length by omega] at hff;have hff2:(Cw a b).2.2=false:=hff;rw[hff2] at hO;simp only[Bool.false_and,Bool.and_false] at hO;rw[hO,if_neg (by simp)] at hG;subst hO hG;simp[hv,A8 hv,show ¬ 0≤v by omega,Ao]
       rw[if_neg hv] at hstp;simp[hv,BH hv,show 0≤v by omega];refine Ab (BL b ⟨m1,m2⟩ m3) ?_;simp[w5,w6,hset,hat,Ao];exact Ae hJ2 hS2 hμ2 (j+1) ⟨by omega,by rw[hstp],by rw[hstp];exact hne0⟩ (by omega) ⟨[0,1,2,3,4,5,6,7,8],by simp[hstp]⟩
     · have c:=Ch I (Aa b) an x1 x2 hI20 hfbI ha3 (by omega) (by omega) hm;generalize hvv:AZ (Aa b) an x1 x2=v at *;simp[A8 hlt,hA,hL,At];refine AH 8 (by kernel_rfl) ?_;simp;refine Ab (kA) ?_;simp;refine Ab (kB) ?_;simp;refine Ac (c) [] [3,6] (by simp) ?_;simp;by_cases hv:v<0
       · rw[if_pos hv] at hstp;have hff:=DA (show (Dk b (Cq a).2.1 (j+1)).2.2=false by rw[hstp]) (b.2.2.1.length - (j+1));rw[show j+1+(b.2.2.1.length - (j+1))=b.2.2.1.length by omega] at hff;have hff2:(Cw a b).2.2=false:=hff;rw[hff2] at hO;simp only[Bool.false_and,Bool.and_false] at hO;rw[hO,if_neg (by simp)] at hG;subst hO hG;simp[hv,A8 hv,show ¬ 0≤v by omega,Ao]
       rw[if_neg hv] at hstp;simp[hv,BH hv,show 0≤v by omega];refine Ab (BL b ⟨m1,m2⟩ m3) ?_;simp[w5,w6,hset,hat,Ao];exact Ae hJ2 hS2 hμ2 (j+1) ⟨by omega,by rw[hstp],by rw[hstp];exact mO hne0⟩ (by omega) ⟨[0,1,2,3,4,5,10,7,8],by simp[hstp]⟩
 · have hf1:=hi1 (by omega);have hf2:=hi2 (by omega);rw[hf1,hf2] at hO;simp only[Bool.true_and] at hO;obtain⟨q1,-⟩:=p2 b.2.2.1.length (Nat.le_refl _);obtain⟨t1,-⟩:=p1 a.2.2.1.length (Nat.le_refl _);have hplB:=q1.pl;have hplA:=t1.pl;have hanB:=q1.an;have hle12:(Cq a).2.1.length≤(Cw a b).2.1.length:=(p2 b.2.2.1.length (Nat.le_refl _)).2;have hMr:DN a b=Bf (Aa a) (Bo a (Cq a).1) (Bo b (Cw a b).1) (Cw a b).2.1 (Ay a).length:=rfl;have hra:(Bo a (Cq a).1).length=(Ay a).length:=by simp[Bo]
   have hrb:(Bo b (Cw a b).1).length=(Ay a).length:=by simp[Bo,hrl]
   have hrA:∀ k:Int,k∈Bo a (Cq a).1→0≤k∧k<2*((Aa a:Int)+(Cw a b).2.1.length):=fun k hk=>by
    obtain⟨l,-,rfl⟩:=CE.1 hk;have e2:(Dk a [] a.2.2.1.length).2.1.length=(Cq a).2.1.length:=rfl;have hq:JY ((Aa a:Int)+(Cw a b).2.1.length) (Cq a).1:=HM hplA (by omega);have hb3:(Cw a b).2.1.length≤300:=hanB;exact Bp (BK hq (by omega) _) (by omega)
   have hrB:∀ k:Int,k∈Bo b (Cw a b).1→0≤k∧k<2*((Aa a:Int)+(Cw a b).2.1.length):=fun k hk=>by
    obtain⟨l,-,rfl⟩:=CE.1 hk;have hb3:(Cw a b).2.1.length≤300:=hanB;rw[hfb] at hplB
    exact Bp (BK hplB (by have:(0:Int)≤(Cw a b).2.1.length:=by omega
                                     omega) _) (by omega)
   have hb3:(Cw a b).2.1.length≤300:=hanB;have hlsM:mE a b 2=[Bo a (Cq a).1,Bo b (Cw a b).1]:=rfl;have hanM:mC a b 2=(Cw a b).2.1:=rfl;have hslM:∀ sl,eH a b I 2 sl=YS I (mE a b 2) (mC a b 2) sl:=fun sl=>rfl;rw[hslM,hlsM,hanM];clear hplA hplB q1 t1 p1 p2 hS hJ hμ hanB;have hnr0:=Gr (x:=a) (k:=a.2.1.length) (M:=4) (fun s hs=>DP ((AA hoa).2.1 s hs));rw[Gi] at hnr0;generalize Bo a (Cq a).1=ra at *;generalize Bo b (Cw a b).1=rb at *;generalize (Cw a b).2.1=an0 at *;generalize DN a b=MR at *;have hrl16:=hra;generalize (Ay a).length=nr at *;have hnr:nr≤64:=by omega
   by_cases han0:an0=[]
   · subst han0;rw[Mz];simp[Pa,show ¬ (2:Int)<2 by omega,Az,e1];refine AJ [false,false,false,false,true,false,true,true,false,false,false,false,false,false,true,false,false,false,false,false,false,false,false,false,false,false,false,false,false,false,false,false,false,false,false,false,false,false,false,false,false,false,false,false,false,false,false,false,false,false,false,false,false,false,false,false,false,false,false,false,false,false,false,false,false,false,false,false,false,false,false,false,false,false,false,false,false,false,true,true] (fun i:Nat=>i≤nr∧(Bf (Aa a) ra rb [] i).2.2=true) (fun i:Nat=>[(14,.d (.int .i64 (Bf (Aa a) ra rb [] i).1)),(79,.d (.int .i64 i))]) (fun i:Nat=>xF I (Bf (Aa a) ra rb [] i).2.1) (fun i:Nat=>nr - i) 0 ?_ ?_ ?_
     · exact⟨Nat.zero_le _,rfl⟩
     · exact⟨[0,1,2,3,4,5],by simp[Bf,Pe,hra]⟩
     rintro J2 S2 μ2 hJ2 hS2 hμ2 i ⟨hi,hio⟩;obtain⟨⟨sv,an,bb⟩,hst⟩:∃ s,Bf (Aa a) ra rb [] i=s:=⟨_,rfl⟩;have hgf:=Fd (fa:=Aa a) (ra:=ra) (rb:=rb) (an0:=[]) (by omega) (by simp) hrA hrB (by omega) (by omega) i hi;rw[hst] at hio hgf;simp only at hio;subst hio;rw[hst];obtain⟨g1,g2,g3⟩:=hgf rfl;simp only at g1 g2 g3;by_cases hlt:i<nr
     case neg =>
      obtain rfl:i=nr:=by omega
      rw[hst] at hMr;subst hMr;simp only at hO;rw[hO,if_pos rfl] at hG;subst hO hG;by_cases hne:an=[]
      · subst hne;rw[Pe];simp[BH hlt,hlt,hra,Ao]
      · rw[Gn hne];simp[BH hlt,hlt,hra,Ao]
     have hx1:ra[i]? = some (ra.getD i 0):=by rw[List.getD_eq_getElem?_getD,A1 (by omega)];rfl
     have hx2:rb[i]? = some (rb.getD i 0):=by rw[List.getD_eq_getElem?_getD,A1 (by omega)];rfl
     have b1:=hrA _ (D4 hx1);have b2:=hrB _ (D4 hx2);have hstp:=FL hst;generalize ra.getD i 0=xa at *;generalize rb.getD i 0=xb at *;have w6:IntKind.i64.wrap ((i:Int)+1)=(i:Int)+1:=Ad (by omega) (by omega);have hLr:∀ x:BW,(Az x).length=1:=fun _=>rfl;by_cases hne:an=[]
     · subst hne;rw[Pe];have xr:=HO (fa:=Aa a) (an:=[]) (a:=xa) (b:=xb) (by omega) g3 (by omega) (by omega);have cxsame:=RV I (Aa a) xa xb hI20 hfaI g3 (by omega) (by omega);have cxnew:=TY I (Aa a) xa xb hI20 hfaI g3 (by omega) (by omega);obtain⟨⟨xv,an1⟩,hX⟩:∃ q,Cz (Aa a) [] xa xb=q:=⟨_,rfl⟩;rw[hX] at xr cxsame cxnew hstp;obtain⟨x1,x2,x3,x4⟩:=xr;simp only at x1 x2 x3 x4 hstp;by_cases hm:an1=[]
       · have c:=cxsame hm;subst hm;simp[A8 hlt,hlt,hra,hLr,Az];refine AH 12 (by kernel_rfl) ?_;simp[hx1,hx2,hLr,Az];refine Ac (c) [] [3] (by simp) ?_;simp;by_cases hv:xv<0
         · rw[if_pos hv] at hstp;have hff:=Bs (show (Bf (Aa a) ra rb [] (i+1)).2.2=false by rw[hstp]) (nr - (i+1));rw[show i+1+(nr - (i+1))=nr by omega,←hMr] at hff;rw[hff] at hO;rw[hO,if_neg (by simp)] at hG;subst hO hG;simp[hv,A8 hv,show ¬ 0≤xv by omega,Ao]
         rw[if_neg hv] at hstp;have xo:=Hw (fa:=Aa a) (an:=[]) (a:=sv) (b:=xv) (by omega) (by omega) (by omega);have cosame:=Jd I (Aa a) sv xv hI20 hfaI x4 (by omega) (by omega);have conew:=J1 I (Aa a) sv xv hI20 hfaI x4 (by omega) (by omega);have hsame:Ba [] (Af sv) (Af xv)=false→[]=Ar [] (Af sv) (Af xv):=fun h=>(Ei h).symm;generalize Gw (Aa a) [] sv xv=ov at *;have hnewN:Ba [] (Af sv) (Af xv)=true→Ar [] (Af sv) (Af xv)≠[]:=FD;generalize Ar [] (Af sv) (Af xv)=an2 at *;generalize Ba [] (Af sv) (Af xv)=mo at *;simp[hv,BH hv,show 0≤xv by omega]
         cases mo
         · have c2:=cosame rfl;obtain rfl:=hsame rfl;refine Ac (c2) [] [3] (by simp) ?_;simp;by_cases hv2:ov<0
           · rw[if_pos hv2] at hstp;have hff:=Bs (show (Bf (Aa a) ra rb [] (i+1)).2.2=false by rw[hstp]) (nr - (i+1));rw[show i+1+(nr - (i+1))=nr by omega,←hMr] at hff;rw[hff] at hO;rw[hO,if_neg (by simp)] at hG;subst hO hG;simp[hv2,A8 hv2,show ¬ 0≤ov by omega,Ao]
           rw[if_neg hv2] at hstp;simp[hv2,BH hv2,show 0≤ov by omega,w6];exact Ae hJ2 hS2 hμ2 (i+1) ⟨by omega,by rw[hstp]⟩ (by omega) ⟨[0,1,2,3,4,5],by simp[hstp,hra,Pe]⟩
         · have c2:=conew rfl;have hn2:=hnewN rfl;refine Ac (c2) [] [3] (by simp) ?_;simp;by_cases hv2:ov<0
           · rw[if_pos hv2] at hstp;have hff:=Bs (show (Bf (Aa a) ra rb [] (i+1)).2.2=false by rw[hstp]) (nr - (i+1));rw[show i+1+(nr - (i+1))=nr by omega,←hMr] at hff;rw[hff] at hO;rw[hO,if_neg (by simp)] at hG;subst hO hG;simp[hv2,A8 hv2,show ¬ 0≤ov by omega,Ao]
           rw[if_neg hv2] at hstp;simp[hv2,BH hv2,show 0≤ov by omega,w6];exact Ae hJ2 hS2 hμ2 (i+1) ⟨by omega,by rw[hstp]⟩ (by omega) ⟨[0,1,2,3,4,5,6],by simp[hstp,hra,Gn hn2]⟩
       · have c:=cxnew hm;simp[A8 hlt,hlt,hra,hLr,Az];refine AH 12 (by kernel_rfl) ?_;simp[hx1,hx2,hLr,Az];refine Ac (c) [] [3] (by simp) ?_;simp;by_cases hv:xv<0
         · rw[if_pos hv] at hstp;have hff:=Bs (show (Bf (Aa a) ra rb [] (i+1)).2.2=false by rw[hstp]) (nr - (i+1));rw[show i+1+(nr - (i+1))=nr by omega,←hMr] at hff;rw[hff] at hO;rw[hO,if_neg (by simp)] at hG;subst hO hG;simp[hv,A8 hv,show ¬ 0≤xv by omega,Ao]
         rw[if_neg hv] at hstp;have xo:=Hw (fa:=Aa a) (an:=an1) (a:=sv) (b:=xv) (by omega) (by omega) (by omega);have cosame:=BB I (Aa a) an1 sv xv hI20 hfaI x4 (by omega) (by omega);have conew:=BQ I (Aa a) an1 sv xv hI20 hfaI x4 (by omega) (by omega);have hsame:Ba an1 (Af sv) (Af xv)=false→an1=Ar an1 (Af sv) (Af xv):=fun h=>(Ei h).symm;generalize Gw (Aa a) an1 sv xv=ov at *;have hnewN:Ba an1 (Af sv) (Af xv)=true→Ar an1 (Af sv) (Af xv)≠[]:=FD;generalize Ar an1 (Af sv) (Af xv)=an2 at *;generalize Ba an1 (Af sv) (Af xv)=mo at *;simp[hv,BH hv,show 0≤xv by omega]
         cases mo
         · have c2:=cosame rfl;obtain rfl:=hsame rfl;refine Ac (c2) [] [3,6] (by simp) ?_;simp;by_cases hv2:ov<0
           · rw[if_pos hv2] at hstp;have hff:=Bs (show (Bf (Aa a) ra rb [] (i+1)).2.2=false by rw[hstp]) (nr - (i+1));rw[show i+1+(nr - (i+1))=nr by omega,←hMr] at hff;rw[hff] at hO;rw[hO,if_neg (by simp)] at hG;subst hO hG;simp[hv2,A8 hv2,show ¬ 0≤ov by omega,Ao]
           rw[if_neg hv2] at hstp;simp[hv2,BH hv2,show 0≤ov by omega,w6];have hn2:an1≠[]:=hm;exact Ae hJ2 hS2 hμ2 (i+1) ⟨by omega,by rw[hstp]⟩ (by omega) ⟨[0,1,2,3,4,5,6],by simp[hstp,hra,Gn hn2]⟩
         · have c2:=conew rfl;have hn2:=hnewN rfl;refine Ac (c2) [] [3,6] (by simp) ?_;simp;by_cases hv2:ov<0
           · rw[if_pos hv2] at hstp;have hff:=Bs (show (Bf (Aa a) ra rb [] (i+1)).2.2=false by rw[hstp]) (nr - (i+1));rw[show i+1+(nr - (i+1))=nr by omega,←hMr] at hff;rw[hff] at hO;rw[hO,if_neg (by simp)] at hG;subst hO hG;simp[hv2,A8 hv2,show ¬ 0≤ov by omega,Ao]
           rw[if_neg hv2] at hstp;simp[hv2,BH hv2,show 0≤ov by omega,w6];exact Ae hJ2 hS2 hμ2 (i+1) ⟨by omega,by rw[hstp]⟩ (by omega) ⟨[0,1,2,3,4,5,7],by simp[hstp,hra,Gn hn2]⟩
     · rw[Gn hne];have xr:=HO (fa:=Aa a) (an:=an) (a:=xa) (b:=xb) (by omega) g3 (by omega) (by omega);have cxsame:=Lx I (Aa a) an xa xb hI20 hfaI g3 (by omega) (by omega);have cxnew:=MH I (Aa a) an xa xb hI20 hfaI g3 (by omega) (by omega);obtain⟨⟨xv,an1⟩,hX⟩:∃ q,Cz (Aa a) an xa xb=q:=⟨_,rfl⟩;rw[hX] at xr cxsame cxnew hstp;obtain⟨x1,x2,x3,x4⟩:=xr;simp only at x1 x2 x3 x4 hstp;by_cases hm:an1=an
       · have c:=cxsame hm;obtain rfl:an=an1:=hm.symm;simp[A8 hlt,hlt,hra,hLr,Az];refine AH 12 (by kernel_rfl) ?_;simp[hx1,hx2,hLr,Az];refine Ac (c) [] [3,6] (by simp) ?_;simp;by_cases hv:xv<0
         · rw[if_pos hv] at hstp;have hff:=Bs (show (Bf (Aa a) ra rb [] (i+1)).2.2=false by rw[hstp]) (nr - (i+1));rw[show i+1+(nr - (i+1))=nr by omega,←hMr] at hff;rw[hff] at hO;rw[hO,if_neg (by simp)] at hG;subst hO hG;simp[hv,A8 hv,show ¬ 0≤xv by omega,Ao]
         rw[if_neg hv] at hstp;have xo:=Hw (fa:=Aa a) (an:=an) (a:=sv) (b:=xv) (by omega) (by omega) (by omega);have cosame:=BB I (Aa a) an sv xv hI20 hfaI x4 (by omega) (by omega);have conew:=BQ I (Aa a) an sv xv hI20 hfaI x4 (by omega) (by omega);have hsame:Ba an (Af sv) (Af xv)=false→an=Ar an (Af sv) (Af xv):=fun h=>(Ei h).symm;generalize Gw (Aa a) an sv xv=ov at *;have hnewN:Ba an (Af sv) (Af xv)=true→Ar an (Af sv) (Af xv)≠[]:=FD;generalize Ar an (Af sv) (Af xv)=an2 at *;generalize Ba an (Af sv) (Af xv)=mo at *;simp[hv,BH hv,show 0≤xv by omega]
         cases mo
         · have c2:=cosame rfl;obtain rfl:=hsame rfl;refine Ac (c2) [] [3,6] (by simp) ?_;simp;by_cases hv2:ov<0
           · rw[if_pos hv2] at hstp;have hff:=Bs (show (Bf (Aa a) ra rb [] (i+1)).2.2=false by rw[hstp]) (nr - (i+1));rw[show i+1+(nr - (i+1))=nr by omega,←hMr] at hff;rw[hff] at hO;rw[hO,if_neg (by simp)] at hG;subst hO hG;simp[hv2,A8 hv2,show ¬ 0≤ov by omega,Ao]
           rw[if_neg hv2] at hstp;simp[hv2,BH hv2,show 0≤ov by omega,w6];exact Ae hJ2 hS2 hμ2 (i+1) ⟨by omega,by rw[hstp]⟩ (by omega) ⟨[0,1,2,3,4,5,6],by simp[hstp,hra,Gn hne]⟩
         · have c2:=conew rfl;have hn2:=hnewN rfl;refine Ac (c2) [] [3,6] (by simp) ?_;simp;by_cases hv2:ov<0
           · rw[if_pos hv2] at hstp;have hff:=Bs (show (Bf (Aa a) ra rb [] (i+1)).2.2=false by rw[hstp]) (nr - (i+1));rw[show i+1+(nr - (i+1))=nr by omega,←hMr] at hff;rw[hff] at hO;rw[hO,if_neg (by simp)] at hG;subst hO hG;simp[hv2,A8 hv2,show ¬ 0≤ov by omega,Ao]
           rw[if_neg hv2] at hstp;simp[hv2,BH hv2,show 0≤ov by omega,w6];exact Ae hJ2 hS2 hμ2 (i+1) ⟨by omega,by rw[hstp]⟩ (by omega) ⟨[0,1,2,3,4,5,7],by simp[hstp,hra,Gn hn2]⟩
       · have c:=cxnew hm;simp[A8 hlt,hlt,hra,hLr,Az];refine AH 12 (by kernel_rfl) ?_;simp[hx1,hx2,hLr,Az];refine Ac (c) [] [3,6] (by simp) ?_;simp;by_cases hv:xv<0
         · rw[if_pos hv] at hstp;have hff:=Bs (show (Bf (Aa a) ra rb [] (i+1)).2.2=false by rw[hstp]) (nr - (i+1));rw[show i+1+(nr - (i+1))=nr by omega,←hMr] at hff;rw[hff] at hO;rw[hO,if_neg (by simp)] at hG;subst hO hG;simp[hv,A8 hv,show ¬ 0≤xv by omega,Ao]
         rw[if_neg hv] at hstp;have xo:=Hw (fa:=Aa a) (an:=an1) (a:=sv) (b:=xv) (by omega) (by omega) (by omega);have cosame:=BB I (Aa a) an1 sv xv hI20 hfaI x4 (by omega) (by omega);have conew:=BQ I (Aa a) an1 sv xv hI20 hfaI x4 (by omega) (by omega);have hsame:Ba an1 (Af sv) (Af xv)=false→an1=Ar an1 (Af sv) (Af xv):=fun h=>(Ei h).symm;generalize Gw (Aa a) an1 sv xv=ov at *;have hnewN:Ba an1 (Af sv) (Af xv)=true→Ar an1 (Af sv) (Af xv)≠[]:=FD;generalize Ar an1 (Af sv) (Af xv)=an2 at *;generalize Ba an1 (Af sv) (Af xv)=mo at *;simp[hv,BH hv,show 0≤xv by omega]
         cases mo
         · have c2:=cosame rfl;obtain rfl:=hsame rfl;refine Ac (c2) [] [3,7] (by simp) ?_;simp;by_cases hv2:ov<0
           · rw[if_pos hv2] at hstp;have hff:=Bs (show (Bf (Aa a) ra rb [] (i+1)).2.2=false by rw[hstp]) (nr - (i+1));rw[show i+1+(nr - (i+1))=nr by omega,←hMr] at hff;rw[hff] at hO;rw[hO,if_neg (by simp)] at hG;subst hO hG;simp[hv2,A8 hv2,show ¬ 0≤ov by omega,Ao]
           rw[if_neg hv2] at hstp;simp[hv2,BH hv2,show 0≤ov by omega,w6];have hn2:an1≠[]:=RU (by have:=List.length_pos_iff.2 hne;omega);exact Ae hJ2 hS2 hμ2 (i+1) ⟨by omega,by rw[hstp]⟩ (by omega) ⟨[0,1,2,3,4,5,7],by simp[hstp,hra,Gn hn2]⟩
         · have c2:=conew rfl;have hn2:=hnewN rfl;refine Ac (c2) [] [3,7] (by simp) ?_;simp;by_cases hv2:ov<0
           · rw[if_pos hv2] at hstp;have hff:=Bs (show (Bf (Aa a) ra rb [] (i+1)).2.2=false by rw[hstp]) (nr - (i+1));rw[show i+1+(nr - (i+1))=nr by omega,←hMr] at hff;rw[hff] at hO;rw[hO,if_neg (by simp)] at hG;subst hO hG;simp[hv2,A8 hv2,show ¬ 0≤ov by omega,Ao]
           rw[if_neg hv2] at hstp;simp[hv2,BH hv2,show 0≤ov by omega,w6];exact Ae hJ2 hS2 hμ2 (i+1) ⟨by omega,by rw[hstp]⟩ (by omega) ⟨[0,1,2,3,4,5,8],by simp[hstp,hra,Gn hn2]⟩
   · rw[IY han0];simp[Pa,show ¬ (2:Int)<2 by omega,Az,e1];refine AB [false,false,false,false,true,false,true,true,false,false,false,false,false,false,true,false,false,false,false,false,false,false,false,false,false,false,false,false,false,false,false,false,false,false,false,false,false,false,false,false,false,false,false,false,false,false,false,false,false,false,false,false,false,false,false,false,false,false,false,false,false,false,false,false,false,false,false,false,false,false,false,false,false,false,false,false,false,false,true,true] (fun i:Nat=>i≤nr∧(Bf (Aa a) ra rb an0 i).2.2=true) (fun i:Nat=>[(14,.d (.int .i64 (Bf (Aa a) ra rb an0 i).1)),(79,.d (.int .i64 i))]) (fun i:Nat=>[(6,.arr 63 true ((Bf (Aa a) ra rb an0 i).2.1.map At))]) (fun i:Nat=>nr - i) 0 ?_ ?_ ?_
     · exact⟨Nat.zero_le _,rfl⟩
     · exact⟨[0,1,2,3,4,5,6],by simp[Bf,hra]⟩
     rintro J2 S2 μ2 hJ2 hS2 hμ2 i ⟨hi,hio⟩;obtain⟨⟨sv,an,bb⟩,hst⟩:∃ s,Bf (Aa a) ra rb an0 i=s:=⟨_,rfl⟩;have hgf:=Fd (fa:=Aa a) (ra:=ra) (rb:=rb) (an0:=an0) (by omega) hb3 hrA hrB (by omega) (by omega) i hi;rw[hst] at hio hgf;simp only at hio;subst hio;rw[hst];obtain⟨g1,g2,g3⟩:=hgf rfl;simp only at g1 g2 g3;by_cases hlt:i<nr
     case neg =>
      obtain rfl:i=nr:=by omega
      rw[hst] at hMr;subst hMr;simp only at hO;rw[hO,if_pos rfl] at hG;subst hO hG;simp[BH hlt,hlt,hra,Ao]
     have hx1:ra[i]? = some (ra.getD i 0):=by rw[List.getD_eq_getElem?_getD,A1 (by omega)];rfl
     have hx2:rb[i]? = some (rb.getD i 0):=by rw[List.getD_eq_getElem?_getD,A1 (by omega)];rfl
     have b1:=hrA _ (D4 hx1);have b2:=hrB _ (D4 hx2);have hstp:=FL hst;generalize ra.getD i 0=xa at *;generalize rb.getD i 0=xb at *;have w6:IntKind.i64.wrap ((i:Int)+1)=(i:Int)+1:=Ad (by omega) (by omega);have hLr:∀ x:BW,(Az x).length=1:=fun _=>rfl;have xr:=HO (fa:=Aa a) (an:=an) (a:=xa) (b:=xb) (by omega) g3 (by omega) (by omega);have cxsame:=Lx I (Aa a) an xa xb hI20 hfaI g3 (by omega) (by omega);have cxnew:=MH I (Aa a) an xa xb hI20 hfaI g3 (by omega) (by omega);obtain⟨⟨xv,an1⟩,hX⟩:∃ q,Cz (Aa a) an xa xb=q:=⟨_,rfl⟩;rw[hX] at xr cxsame cxnew hstp;obtain⟨x1,x2,x3,x4⟩:=xr;simp only at x1 x2 x3 x4 hstp;by_cases hm:an1=an
     · have c:=cxsame hm;obtain rfl:an=an1:=hm.symm;simp[A8 hlt,hlt,hra,hLr,Az];refine AH 12 (by kernel_rfl) ?_;simp[hx1,hx2,hLr,Az];refine Ac (c) [] [3,6] (by simp) ?_;simp;by_cases hv:xv<0
       · rw[if_pos hv] at hstp;have hff:=Bs (show (Bf (Aa a) ra rb an0 (i+1)).2.2=false by rw[hstp]) (nr - (i+1));rw[show i+1+(nr - (i+1))=nr by omega,←hMr] at hff;rw[hff] at hO;rw[hO,if_neg (by simp)] at hG;subst hO hG;simp[hv,A8 hv,show ¬ 0≤xv by omega,Ao]
       rw[if_neg hv] at hstp;have xo:=Hw (fa:=Aa a) (an:=an) (a:=sv) (b:=xv) (by omega) (by omega) (by omega);have cosame:=BB I (Aa a) an sv xv hI20 hfaI x4 (by omega) (by omega);have conew:=BQ I (Aa a) an sv xv hI20 hfaI x4 (by omega) (by omega);have hsame:Ba an (Af sv) (Af xv)=false→an=Ar an (Af sv) (Af xv):=fun h=>(Ei h).symm;generalize Gw (Aa a) an sv xv=ov at *;have hnewN:Ba an (Af sv) (Af xv)=true→Ar an (Af sv) (Af xv)≠[]:=FD;generalize Ar an (Af sv) (Af xv)=an2 at *;generalize Ba an (Af sv) (Af xv)=mo at *;simp[hv,BH hv,show 0≤xv by omega]
       cases mo
       · have c2:=cosame rfl;obtain rfl:=hsame rfl;refine Ac (c2) [] [3,6] (by simp) ?_;simp;by_cases hv2:ov<0
         · rw[if_pos hv2] at hstp;have hff:=Bs (show (Bf (Aa a) ra rb an0 (i+1)).2.2=false by rw[hstp]) (nr - (i+1));rw[show i+1+(nr - (i+1))=nr by omega,←hMr] at hff;rw[hff] at hO;rw[hO,if_neg (by simp)] at hG;subst hO hG;simp[hv2,A8 hv2,show ¬ 0≤ov by omega,Ao]
         rw[if_neg hv2] at hstp;simp[hv2,BH hv2,show 0≤ov by omega,w6];exact Ae hJ2 hS2 hμ2 (i+1) ⟨by omega,by rw[hstp]⟩ (by omega) ⟨[0,1,2,3,4,5,6],by simp[hstp,hra]⟩
       · have c2:=conew rfl;have hn2:=hnewN rfl;refine Ac (c2) [] [3,6] (by simp) ?_;simp;by_cases hv2:ov<0
         · rw[if_pos hv2] at hstp;have hff:=Bs (show (Bf (Aa a) ra rb an0 (i+1)).2.2=false by rw[hstp]) (nr - (i+1));rw[show i+1+(nr - (i+1))=nr by omega,←hMr] at hff;rw[hff] at hO;rw[hO,if_neg (by simp)] at hG;subst hO hG;simp[hv2,A8 hv2,show ¬ 0≤ov by omega,Ao]
         rw[if_neg hv2] at hstp;simp[hv2,BH hv2,show 0≤ov by omega,w6];exact Ae hJ2 hS2 hμ2 (i+1) ⟨by omega,by rw[hstp]⟩ (by omega) ⟨[0,1,2,3,4,5,7],by simp[hstp,hra]⟩
     · have c:=cxnew hm;simp[A8 hlt,hlt,hra,hLr,Az];refine AH 12 (by kernel_rfl) ?_;simp[hx1,hx2,hLr,Az];refine Ac (c) [] [3,6] (by simp) ?_;simp;by_cases hv:xv<0
       · rw[if_pos hv] at hstp;have hff:=Bs (show (Bf (Aa a) ra rb an0 (i+1)).2.2=false by rw[hstp]) (nr - (i+1));rw[show i+1+(nr - (i+1))=nr by omega,←hMr] at hff;rw[hff] at hO;rw[hO,if_neg (by simp)] at hG;subst hO hG;simp[hv,A8 hv,show ¬ 0≤xv by omega,Ao]
       rw[if_neg hv] at hstp;have xo:=Hw (fa:=Aa a) (an:=an1) (a:=sv) (b:=xv) (by omega) (by omega) (by omega);have cosame:=BB I (Aa a) an1 sv xv hI20 hfaI x4 (by omega) (by omega);have conew:=BQ I (Aa a) an1 sv xv hI20 hfaI x4 (by omega) (by omega);have hsame:Ba an1 (Af sv) (Af xv)=false→an1=Ar an1 (Af sv) (Af xv):=fun h=>(Ei h).symm;generalize Gw (Aa a) an1 sv xv=ov at *;have hnewN:Ba an1 (Af sv) (Af xv)=true→Ar an1 (Af sv) (Af xv)≠[]:=FD;generalize Ar an1 (Af sv) (Af xv)=an2 at *;generalize Ba an1 (Af sv) (Af xv)=mo at *;simp[hv,BH hv,show 0≤xv by omega]
       cases mo
       · have c2:=cosame rfl;obtain rfl:=hsame rfl;refine Ac (c2) [] [3,7] (by simp) ?_;simp;by_cases hv2:ov<0
         · rw[if_pos hv2] at hstp;have hff:=Bs (show (Bf (Aa a) ra rb an0 (i+1)).2.2=false by rw[hstp]) (nr - (i+1));rw[show i+1+(nr - (i+1))=nr by omega,←hMr] at hff;rw[hff] at hO;rw[hO,if_neg (by simp)] at hG;subst hO hG;simp[hv2,A8 hv2,show ¬ 0≤ov by omega,Ao]
         rw[if_neg hv2] at hstp;simp[hv2,BH hv2,show 0≤ov by omega,w6];exact Ae hJ2 hS2 hμ2 (i+1) ⟨by omega,by rw[hstp]⟩ (by omega) ⟨[0,1,2,3,4,5,7],by simp[hstp,hra]⟩
       · have c2:=conew rfl;have hn2:=hnewN rfl;refine Ac (c2) [] [3,7] (by simp) ?_;simp;by_cases hv2:ov<0
         · rw[if_pos hv2] at hstp;have hff:=Bs (show (Bf (Aa a) ra rb an0 (i+1)).2.2=false by rw[hstp]) (nr - (i+1));rw[show i+1+(nr - (i+1))=nr by omega,←hMr] at hff;rw[hff] at hO;rw[hO,if_neg (by simp)] at hG;subst hO hG;simp[hv2,A8 hv2,show ¬ 0≤ov by omega,Ao]
         rw[if_neg hv2] at hstp;simp[hv2,BH hv2,show 0≤ov by omega,w6];exact Ae hJ2 hS2 hμ2 (i+1) ⟨by omega,by rw[hstp]⟩ (by omega) ⟨[0,1,2,3,4,5,8],by simp[hstp,hra]⟩
end Go.Proofs.YtnjedabjbeipeaaGreat
