/-
  The net that compares two nets, by an abstract walk: the program.
  Conditions: those typed in each theorem.
-/
import Derived.Test.YtnjedabjbeipeaaGreatRn
namespace Go.Proofs.YtnjedabjbeipeaaGreat
open Go.RowKit Go.ChangeShapes Go.WideShapes
set_option linter.unusedSimpArgs false
set_option linter.unusedVariables false
set_option maxRecDepth 100000
set_option maxHeartbeats 10000000
def jV (a b:AK) (i:Nat):List BT:=if i=1 then [Bm a (Cm a).1] else [Bm a (Cm a).1,Bm b (Cs a b).1]
def kG (a b:AK) (i:Nat):List Ai:=if i=1 then (Cm a).2.1 else (Cs a b).2.1
abbrev Yv (I:Int) (k:Nat):Ah:=.var 28 [.d (.int .i64 I),.nil 57,.ref k,.nil 3]
def Xi (I:Int) (ls:List BT) (an:List Ai) (sl:List Ah):List Ah :=
 if an=[] then sl++[.arr 26 true (ls.map Az)] else sl.set 3 (Yv I 6)++[.arr 26 true (ls.map Az),.arr 63 true (an.map At)]
theorem L7 {I:Int} {ls:List BT} {sl:List Ah}:Xi I ls [] sl=sl++[.arr 26 true (ls.map Az)]:=by simp[Xi]
theorem Ik {I:Int} {ls:List BT} {an:List Ai} {sl:List Ah} (h:an≠[]):Xi I ls an sl=sl.set 3 (Yv I 6)++[.arr 26 true (ls.map Az),.arr 63 true (an.map At)]:=by simp[Xi,h]
def Ou (i:Nat):V:=if i=0 then .nil 26 else .ref 5
def aI (a b:AK) (I:Int) (i:Nat) (sl:List Ah):List Ah:=if i=0 then sl else Xi I (jV a b i) (kG a b i) sl
def ZH (I:Int) (p k:Nat) (pl:List Int) (an:List Ai) (sl:List Ah):List Ah :=
 if an=[] then sl.set p (.arr 3 true (pl.map (e1 AC))) else (sl.set p (.arr 3 true (pl.map (e1 AC)))).set 3 (Yv I k)++[.arr 63 true (an.map At)]
theorem GC {I:Int} {p k:Nat} {pl:List Int} {sl:List Ah}:ZH I p k pl [] sl=sl.set p (.arr 3 true (pl.map (e1 AC))):=by simp[ZH]
theorem Eu {I:Int} {p k:Nat} {pl:List Int} {an:List Ai} {sl:List Ah} (h:an≠[]):ZH I p k pl an sl=(sl.set p (.arr 3 true (pl.map (e1 AC)))).set 3 (Yv I k)++[.arr 63 true (an.map At)]:=by simp[ZH,h]
def wU (I:Int) (an:List Ai) (sl:List Ah):List Ah:=if an=[] then sl else sl.set 3 (Yv I 6)++[.arr 63 true (an.map At)]
theorem OM {I:Int} {sl:List Ah}:wU I [] sl=sl:=by simp[wU]
theorem F5 {I:Int} {an:List Ai} {sl:List Ah} (h:an≠[]):wU I an sl=sl.set 3 (Yv I 6)++[.arr 63 true (an.map At)]:=by simp[wU,h]
theorem mU {an:List Ai} {a b:Int} (h:an≠[]):Ar an a b≠[]:=by
 unfold Ar;split
 · simp
 · exact h
theorem Ff {an:List Ai} {a b:Int} (h:A8 an a b=true):Ar an a b≠[]:=by unfold Ar;rw[if_pos h];simp
theorem D8 {an:List Ai} {a b:Int} (h:A8 an a b=false):Ar an a b=an:=by unfold Ar;rw[if_neg (by simp[h])]
theorem Q3 {α:Type} {xs:List α} (h:0<xs.length):xs≠[]:=fun e=>by rw[e] at h;simp at h
theorem XD (a b:AK) (ha:Cz 1048576 a) (hb:Cz 1048576 b):Bx Tryz.prog 20 [Ge a,Ge b] (.tup [Ge (Fg a b),.d (.bool (Ea a b))]):=by
 have hO:Ea a b=(GL a b&&(Cm a).2.2&&(Cs a b).2.2&&(DC a b).2.2):=rfl;have hG:Fg a b=if Ea a b=true then (a.1+(a.2.1.length:Int),[],(DC a b).2.1,[(DC a b).1]) else (0,[],[],[]):=rfl;have kc:=Qd a b ha hb;generalize Fg a b=G at *;generalize Ea a b=O at *;refine B3 (by kernel_rfl) Tryz.func20 rfl rfl rfl ?_;simp[Ao]
 cases hcb:GL a b with
 | false =>
   rw[hcb] at kc hO;simp only[Bool.false_and] at hO;rw[hO,if_neg (by simp)] at hG;subst hO hG;refine Ab (kc) ?_;simp[Ao]
 | true =>
 rw[hcb] at kc hO;simp only[Bool.true_and] at hO;obtain⟨hoa,hob,h1,h2,h3,h4,hfb,hrl⟩:=G9 hcb;obtain⟨⟨n1,n2,n3,n4,n5,n6⟩,-,-,-⟩:=AA hoa;obtain⟨⟨m1,m2,m3,m4,m5,m6⟩,-,-,-⟩:=AA hob;obtain⟨hFa,hga,hNa,-⟩:=A7 hoa;obtain⟨hFb,hgb,hNb,-⟩:=A7 hob;have hNea:=Bp a;have hNeb:=Bp b;obtain⟨I,hI⟩:∃ I,a.1+(a.2.1.length:Int)=I:=⟨_,rfl⟩;have w1:IntKind.i64.wrap (a.1+(a.2.1.length:Int))=I:=by rw[←hI];exact Ad (by omega) (by omega)
 rw[hI] at hG;have hI20:0≤I∧I≤20:=by omega
 have hfaI:1+I=(Aa a:Int):=by omega
 have hfbI:1+I=(Aa b:Int):=by omega
 refine Ab (kc) ?_;simp[Ao,w1];refine AH [false,false,false,false,true,false,true,true,false,false,false,false,false,false,false,false,false,false,false,false,false,false,false,false,false,false,false,false,false,false,false,true,true,true] (fun i:Nat=>i≤2∧(0<i→(Cm a).2.2=true)∧(1<i→(Cs a b).2.2=true)) (fun i:Nat=>[(7,Ou i),(33,.d (.int .i64 i))]) (fun i:Nat=>aI a b I i) (fun i:Nat=>2 - i) 0 ?_ ?_ ?_
 · exact⟨by omega,by omega,by omega⟩
 · exact⟨[0,1,2,3,4],by simp[aI,Ou]⟩
 rintro J S μ hJ hS hμ i ⟨hi,hi1,hi2⟩;have p1:=fun i hi=>G5 (x:=a) hoa (an0:=[]) (by simp) rfl (i:=i) hi;have p2:=fun i hi=>G5 (x:=b) hob (an0:=(Cm a).2.1) (p1 a.2.2.1.length (Nat.le_refl _)).1.an (by rw[hfb];exact (p1 a.2.2.1.length (Nat.le_refl _)).1.ok) (i:=i) hi;rcases (show i=0∨i=1∨i=2 by omega) with rfl|rfl|rfl
 · simp[aI,Ou,show (0:Int)<2 by omega,Ao];refine Ab (Jf a ha hoa) ?_;simp[Ao];obtain⟨imS,himS⟩:∃ f:Nat→List Int×List Ai×Bool,f=C9 a []:=⟨_,rfl⟩;refine AH [false,false,false,false,true,false,true,true,false,true,true,false,false,false,false,false,false,false,false,false,false,false,false,false,false,false,false,false,false,false,false,true,true,true,false,false,false,false,false,false,true,true,true] (fun j:Nat=>j≤a.2.2.1.length∧(C9 a [] j).2.2=true) (fun j:Nat=>[(42,.d (.int .i64 j))]) (fun j:Nat=>ZH I 6 7 (Er (C9 a [] j).1 (A0 a)) (C9 a [] j).2.1) (fun j:Nat=>a.2.2.1.length - j) 0 ?_ ?_ ?_
   · exact⟨Nat.zero_le _,rfl⟩
   · exact⟨[0,1,2,3,4,5,6],by simp[C9,B0,GC]⟩
   rintro J2 S2 μ2 hJ2 hS2 hμ2 j ⟨hj,hjo⟩;obtain⟨q1,q2⟩:=p1 j hj;obtain⟨⟨to,an,bb⟩,hst⟩:∃ s,C9 a [] j=s:=⟨_,rfl⟩;rw[hst] at hjo q1 q2;simp only at hjo q2;obtain rfl:bb=true:=hjo;have hl:=q1.len rfl;have hpl:=q1.pl;have ha3:=q1.an;simp only at hl hpl ha3;rw[hst];by_cases hlt:j<a.2.2.1.length
   case neg =>
    obtain rfl:j=a.2.2.1.length:=by omega
    have hfull:Cm a=(to,an,true):=hst;have hpall:Er (to,an,true).1 (A0 a)=to:=Po (by simp only;omega);rw[hpall];have hroots:=Iy a ha n3
    have hrlen:(Ay a).length≤1048576:=by
     have h1:=FR (x:=a) (k:=a.2.1.length) (M:=4) (fun s hs=>DE ((AA hoa).2.1 s hs));rw[FU] at h1;omega
    have hmap:=Kd to (Ay a) (by omega) hrlen (fun l hl=>by have:=OI hoa hl;unfold VL at this;omega);have hrM:(Ay a).map (Aq to)=Bm a (Cm a).1:=by rw[hfull];rfl
    rw[hrM] at hmap;by_cases hne:an=[]
    · subst hne;rw[GC];simp[zz3 hlt,hlt];refine Ab (hroots) ?_;simp[Ao];refine Ab (hmap) ?_;simp
      first | refine Bs (q:=1) AM (by exact rfl) (by simp) (by exact rfl) (by exact rfl) (by simp) (by simp) (by first | (simp;done)|(simp;omega)) ?_|refine Br AM (by exact rfl) (by simp) (by exact rfl) (by simp) (by first | (simp;done)|(simp;omega)) ?_
      simp[show IntKind.i64.wrap 1=1 from rfl,show IntKind.i64.wrap 2=2 from rfl];exact Ae hJ hS hμ 1 ⟨by omega,fun _=>by rw[hfull],fun h=>by omega⟩ (by omega) ⟨[0,1,2,3,4,10],by simp[aI,Ou,jV,kG,hfull,L7,Az,e1]⟩
    · rw[Eu hne];simp[zz3 hlt,hlt];refine Ab (hroots) ?_;simp[Ao];refine Ab (hmap) ?_;simp
      first | refine Bs (q:=1) AM (by exact rfl) (by simp) (by exact rfl) (by exact rfl) (by simp) (by simp) (by first | (simp;done)|(simp;omega)) ?_|refine Br AM (by exact rfl) (by simp) (by exact rfl) (by simp) (by first | (simp;done)|(simp;omega)) ?_
      simp[show IntKind.i64.wrap 1=1 from rfl,show IntKind.i64.wrap 2=2 from rfl];exact Ae hJ hS hμ 1 ⟨by omega,fun _=>by rw[hfull],fun h=>by omega⟩ (by omega) ⟨[0,1,2,3,4,11,7],by simp[aI,Ou,jV,kG,hfull,Ik hne,Az,e1]⟩
   obtain⟨hA,a1,a2,a3,a4,a5,a6⟩:=CW hoa (v:=Aa a+j) (by omega) (by omega);rw[Nat.add_sub_cancel_left] at hA;have hstp:=MQ hst;generalize Aj a (Aa a+j)=A at *;have hL:(At A).length=2:=rfl;have r1:=Bn (l:=A.1) (BH hpl (by omega) (A.1 / 2)) (by omega);have r2:=Bn (l:=A.2) (BH hpl (by omega) (A.2 / 2)) (by omega);have hplen:=Mk (p:=to) (n:=A0 a) (by omega);have kA:=Fx (Er to (A0 a)) A.1 (by omega) (by omega);have kB:=Fx (Er to (A0 a)) A.2 (by omega) (by omega);rw[QO (by omega)] at kA kB;have hset:=fun v:Int=>Kv (p:=to) (n:=A0 a) (v:=v) (by omega);have hat:(Er to (A0 a))[to.length]? = some (A1 (Er to (A0 a)) to.length):=B8 (k:=to.length) (by omega);have w5:IntKind.i64.wrap (1+a.1+(a.2.1.length:Int)+(j:Int))=(to.length:Int):=by rw[Ad (by omega) (by omega)];omega
   have w6:IntKind.i64.wrap ((j:Int)+1)=(j:Int)+1:=Ad (by omega) (by omega);generalize Aq to A.1=x1 at *;generalize Aq to A.2=x2 at *;have hneg:=Mf (fa:=Aa a) (an:=an) (a:=x1) (b:=x2) (by omega) (by omega) (by omega);generalize A1 (Er to (A0 a)) to.length=pv at *;by_cases hne:an=[]
   · subst hne;rw[GC]
     cases hm:A8 [] x1 x2
     · have c:=Ds I (Aa a) x1 x2 hI20 hfaI (by omega) (by omega) hm;rw[D8 hm] at hstp;generalize hvv:AZ (Aa a) [] x1 x2=v at *;simp[zz2 hlt,hA,hL,At];refine AJ 8 (by kernel_rfl) ?_;simp;refine Ab (kA) ?_;simp;refine Ab (kB) ?_;simp;refine Ac (c) [] [3] (by simp) ?_;simp;by_cases hv:v<0
       · rw[if_pos hv] at hstp;have hff:=Dp (show (C9 a [] (j+1)).2.2=false by rw[hstp]) (a.2.2.1.length - (j+1));rw[show j+1+(a.2.2.1.length - (j+1))=a.2.2.1.length by omega] at hff;have hff2:(Cm a).2.2=false:=hff;rw[hff2] at hO;simp only[Bool.false_and,Bool.and_false] at hO;rw[hO,if_neg (by simp)] at hG;subst hO hG;simp[hv,zz2 hv,show ¬ 0≤v by omega,Ao]
       rw[if_neg hv] at hstp;simp[hv,zz3 hv,show 0≤v by omega];refine Ab (BF a ⟨n1,n2⟩ n3) ?_;simp[w5,w6,hset,hat,Ao];exact Ae hJ2 hS2 hμ2 (j+1) ⟨by omega,by rw[hstp]⟩ (by omega) ⟨[0,1,2,3,4,5,6],by simp[hstp,GC]⟩
     · have c:=DO I (Aa a) x1 x2 hI20 hfaI (by omega) (by omega) hm;generalize hvv:AZ (Aa a) [] x1 x2=v at *;simp[zz2 hlt,hA,hL,At];refine AJ 8 (by kernel_rfl) ?_;simp;refine Ab (kA) ?_;simp;refine Ab (kB) ?_;simp;refine Ac (c) [] [3] (by simp) ?_;simp;by_cases hv:v<0
       · rw[if_pos hv] at hstp;have hff:=Dp (show (C9 a [] (j+1)).2.2=false by rw[hstp]) (a.2.2.1.length - (j+1));rw[show j+1+(a.2.2.1.length - (j+1))=a.2.2.1.length by omega] at hff;have hff2:(Cm a).2.2=false:=hff;rw[hff2] at hO;simp only[Bool.false_and,Bool.and_false] at hO;rw[hO,if_neg (by simp)] at hG;subst hO hG;simp[hv,zz2 hv,show ¬ 0≤v by omega,Ao]
       rw[if_neg hv] at hstp;simp[hv,zz3 hv,show 0≤v by omega];refine Ab (BF a ⟨n1,n2⟩ n3) ?_;simp[w5,w6,hset,hat,Ao];exact Ae hJ2 hS2 hμ2 (j+1) ⟨by omega,by rw[hstp]⟩ (by omega) ⟨[0,1,2,3,4,5,6,8],by simp[hstp,Eu (Ff hm)]⟩
   · rw[Eu hne]
     cases hm:A8 an x1 x2
     · have c:=B1 I (Aa a) an x1 x2 hI20 hfaI ha3 (by omega) (by omega) hm;rw[D8 hm] at hstp;generalize hvv:AZ (Aa a) an x1 x2=v at *;simp[zz2 hlt,hA,hL,At];refine AJ 8 (by kernel_rfl) ?_;simp;refine Ab (kA) ?_;simp;refine Ab (kB) ?_;simp;refine Ac (c) [] [3,7] (by simp) ?_;simp;by_cases hv:v<0
       · rw[if_pos hv] at hstp;have hff:=Dp (show (C9 a [] (j+1)).2.2=false by rw[hstp]) (a.2.2.1.length - (j+1));rw[show j+1+(a.2.2.1.length - (j+1))=a.2.2.1.length by omega] at hff;have hff2:(Cm a).2.2=false:=hff;rw[hff2] at hO;simp only[Bool.false_and,Bool.and_false] at hO;rw[hO,if_neg (by simp)] at hG;subst hO hG;simp[hv,zz2 hv,show ¬ 0≤v by omega,Ao]
       rw[if_neg hv] at hstp;simp[hv,zz3 hv,show 0≤v by omega];refine Ab (BF a ⟨n1,n2⟩ n3) ?_;simp[w5,w6,hset,hat,Ao];exact Ae hJ2 hS2 hμ2 (j+1) ⟨by omega,by rw[hstp]⟩ (by omega) ⟨[0,1,2,3,4,5,6,7],by simp[hstp,Eu hne]⟩
     · have c:=Cd I (Aa a) an x1 x2 hI20 hfaI ha3 (by omega) (by omega) hm;generalize hvv:AZ (Aa a) an x1 x2=v at *;simp[zz2 hlt,hA,hL,At];refine AJ 8 (by kernel_rfl) ?_;simp;refine Ab (kA) ?_;simp;refine Ab (kB) ?_;simp;refine Ac (c) [] [3,7] (by simp) ?_;simp;by_cases hv:v<0
       · rw[if_pos hv] at hstp;have hff:=Dp (show (C9 a [] (j+1)).2.2=false by rw[hstp]) (a.2.2.1.length - (j+1));rw[show j+1+(a.2.2.1.length - (j+1))=a.2.2.1.length by omega] at hff;have hff2:(Cm a).2.2=false:=hff;rw[hff2] at hO;simp only[Bool.false_and,Bool.and_false] at hO;rw[hO,if_neg (by simp)] at hG;subst hO hG;simp[hv,zz2 hv,show ¬ 0≤v by omega,Ao]
       rw[if_neg hv] at hstp;simp[hv,zz3 hv,show 0≤v by omega];refine Ab (BF a ⟨n1,n2⟩ n3) ?_;simp[w5,w6,hset,hat,Ao];exact Ae hJ2 hS2 hμ2 (j+1) ⟨by omega,by rw[hstp]⟩ (by omega) ⟨[0,1,2,3,4,5,6,9],by simp[hstp,Eu (Ff hm)]⟩
 · have hf1:=hi1 (by omega);by_cases hane:(Cm a).2.1=[]
   · have hsl:∀ sl,aI a b I 1 sl=Xi I [Bm a (Cm a).1] [] sl:=fun sl=>by simp[aI,jV,kG,hane]
     rw[hsl,L7];simp[Ou,show (1:Int)<2 by omega,Ao];refine Ab (Jf b hb hob) ?_;simp[Ao];obtain⟨imS,himS⟩:∃ f:Nat→List Int×List Ai×Bool,f=C9 b (Cm a).2.1:=⟨_,rfl⟩;refine AH [false,false,false,false,true,false,true,true,false,true,true,false,false,false,false,false,false,false,false,false,false,false,false,false,false,false,false,false,false,false,false,true,true,true,false,false,false,false,false,false,true,true,true] (fun j:Nat=>j≤b.2.2.1.length∧(C9 b (Cm a).2.1 j).2.2=true) (fun j:Nat=>[(42,.d (.int .i64 j))]) (fun j:Nat=>ZH I 7 8 (Er (C9 b (Cm a).2.1 j).1 (A0 b)) (C9 b (Cm a).2.1 j).2.1) (fun j:Nat=>b.2.2.1.length - j) 0 ?_ ?_ ?_
     · exact⟨Nat.zero_le _,rfl⟩
     · exact⟨[0,1,2,3,4,5,6,7],by simp[C9,B0,hane,GC]⟩
     rintro J2 S2 μ2 hJ2 hS2 hμ2 j ⟨hj,hjo⟩;obtain⟨q1,q2⟩:=p2 j hj;obtain⟨⟨to,an,bb⟩,hst⟩:∃ s,C9 b (Cm a).2.1 j=s:=⟨_,rfl⟩;rw[hst] at hjo q1 q2;simp only at hjo q2;obtain rfl:bb=true:=hjo;have hl:=q1.len rfl;have hpl:=q1.pl;have ha3:=q1.an;simp only at hl hpl ha3;rw[hst];by_cases hlt:j<b.2.2.1.length
     case neg =>
      obtain rfl:j=b.2.2.1.length:=by omega
      have hfull:Cs a b=(to,an,true):=hst;have hpall:Er (to,an,true).1 (A0 b)=to:=Po (by simp only;omega);rw[hpall];have hroots:=Iy b hb m3
      have hrlen:(Ay b).length≤1048576:=by
       have h1:=FR (x:=b) (k:=b.2.1.length) (M:=4) (fun s hs=>DE ((AA hob).2.1 s hs));rw[FU] at h1;omega
      have hmap:=Kd to (Ay b) (by omega) hrlen (fun l hl=>by have:=OI hob hl;unfold VL at this;omega);have hrM:(Ay b).map (Aq to)=Bm b (Cs a b).1:=by rw[hfull];rfl
      rw[hrM] at hmap;by_cases hne:an=[]
      · subst hne;rw[GC];simp[zz3 hlt,hlt];refine Ab (hroots) ?_;simp[Ao];refine Ab (hmap) ?_;simp
        first | refine Bs (q:=1) AM (by exact rfl) (by simp) (by exact rfl) (by exact rfl) (by simp) (by simp) (by first | (simp;done)|(simp;omega)) ?_|refine Br AM (by exact rfl) (by simp) (by exact rfl) (by simp) (by first | (simp;done)|(simp;omega)) ?_
        simp[show IntKind.i64.wrap 1=1 from rfl,show IntKind.i64.wrap 2=2 from rfl];exact Ae hJ hS hμ 2 ⟨by omega,fun _=>hi1 (by omega),fun h=>by rw[hfull]⟩ (by omega) ⟨[0,1,2,3,4,11],by simp[aI,Ou,jV,kG,hfull,L7,Az,e1]⟩
      · rw[Eu hne];simp[zz3 hlt,hlt];refine Ab (hroots) ?_;simp[Ao];refine Ab (hmap) ?_;simp
        first | refine Bs (q:=1) AM (by exact rfl) (by simp) (by exact rfl) (by exact rfl) (by simp) (by simp) (by first | (simp;done)|(simp;omega)) ?_|refine Br AM (by exact rfl) (by simp) (by exact rfl) (by simp) (by first | (simp;done)|(simp;omega)) ?_
        simp[show IntKind.i64.wrap 1=1 from rfl,show IntKind.i64.wrap 2=2 from rfl];exact Ae hJ hS hμ 2 ⟨by omega,fun _=>hi1 (by omega),fun h=>by rw[hfull]⟩ (by omega) ⟨[0,1,2,3,4,12,8],by simp[aI,Ou,jV,kG,hfull,Ik hne,Az,e1]⟩
     obtain⟨hA,a1,a2,a3,a4,a5,a6⟩:=CW hob (v:=Aa b+j) (by omega) (by omega);rw[Nat.add_sub_cancel_left] at hA;have hstp:=MQ hst;generalize Aj b (Aa b+j)=A at *;have hL:(At A).length=2:=rfl;have r1:=Bn (l:=A.1) (BH hpl (by omega) (A.1 / 2)) (by omega);have r2:=Bn (l:=A.2) (BH hpl (by omega) (A.2 / 2)) (by omega);have hplen:=Mk (p:=to) (n:=A0 b) (by omega);have kA:=Fx (Er to (A0 b)) A.1 (by omega) (by omega);have kB:=Fx (Er to (A0 b)) A.2 (by omega) (by omega);rw[QO (by omega)] at kA kB;have hset:=fun v:Int=>Kv (p:=to) (n:=A0 b) (v:=v) (by omega);have hat:(Er to (A0 b))[to.length]? = some (A1 (Er to (A0 b)) to.length):=B8 (k:=to.length) (by omega);have w5:IntKind.i64.wrap (1+b.1+(b.2.1.length:Int)+(j:Int))=(to.length:Int):=by rw[Ad (by omega) (by omega)];omega
     have w6:IntKind.i64.wrap ((j:Int)+1)=(j:Int)+1:=Ad (by omega) (by omega);generalize Aq to A.1=x1 at *;generalize Aq to A.2=x2 at *;have hneg:=Mf (fa:=Aa b) (an:=an) (a:=x1) (b:=x2) (by omega) (by omega) (by omega);generalize A1 (Er to (A0 b)) to.length=pv at *;by_cases hne:an=[]
     · subst hne;rw[GC]
       cases hm:A8 [] x1 x2
       · have c:=Ds I (Aa b) x1 x2 hI20 hfbI (by omega) (by omega) hm;rw[D8 hm] at hstp;generalize hvv:AZ (Aa b) [] x1 x2=v at *;simp[zz2 hlt,hA,hL,At];refine AJ 8 (by kernel_rfl) ?_;simp;refine Ab (kA) ?_;simp;refine Ab (kB) ?_;simp;refine Ac (c) [] [3] (by simp) ?_;simp;by_cases hv:v<0
         · rw[if_pos hv] at hstp;have hff:=Dp (show (C9 b (Cm a).2.1 (j+1)).2.2=false by rw[hstp]) (b.2.2.1.length - (j+1));rw[show j+1+(b.2.2.1.length - (j+1))=b.2.2.1.length by omega] at hff;have hff2:(Cs a b).2.2=false:=hff;rw[hff2] at hO;simp only[Bool.false_and,Bool.and_false] at hO;rw[hO,if_neg (by simp)] at hG;subst hO hG;simp[hv,zz2 hv,show ¬ 0≤v by omega,Ao]
         rw[if_neg hv] at hstp;simp[hv,zz3 hv,show 0≤v by omega];refine Ab (BF b ⟨m1,m2⟩ m3) ?_;simp[w5,w6,hset,hat,Ao];exact Ae hJ2 hS2 hμ2 (j+1) ⟨by omega,by rw[hstp]⟩ (by omega) ⟨[0,1,2,3,4,5,6,7],by simp[hstp,GC]⟩
       · have c:=DO I (Aa b) x1 x2 hI20 hfbI (by omega) (by omega) hm;generalize hvv:AZ (Aa b) [] x1 x2=v at *;simp[zz2 hlt,hA,hL,At];refine AJ 8 (by kernel_rfl) ?_;simp;refine Ab (kA) ?_;simp;refine Ab (kB) ?_;simp;refine Ac (c) [] [3] (by simp) ?_;simp;by_cases hv:v<0
         · rw[if_pos hv] at hstp;have hff:=Dp (show (C9 b (Cm a).2.1 (j+1)).2.2=false by rw[hstp]) (b.2.2.1.length - (j+1));rw[show j+1+(b.2.2.1.length - (j+1))=b.2.2.1.length by omega] at hff;have hff2:(Cs a b).2.2=false:=hff;rw[hff2] at hO;simp only[Bool.false_and,Bool.and_false] at hO;rw[hO,if_neg (by simp)] at hG;subst hO hG;simp[hv,zz2 hv,show ¬ 0≤v by omega,Ao]
         rw[if_neg hv] at hstp;simp[hv,zz3 hv,show 0≤v by omega];refine Ab (BF b ⟨m1,m2⟩ m3) ?_;simp[w5,w6,hset,hat,Ao];exact Ae hJ2 hS2 hμ2 (j+1) ⟨by omega,by rw[hstp]⟩ (by omega) ⟨[0,1,2,3,4,5,6,7,9],by simp[hstp,Eu (Ff hm)]⟩
     · rw[Eu hne]
       cases hm:A8 an x1 x2
       · have c:=B1 I (Aa b) an x1 x2 hI20 hfbI ha3 (by omega) (by omega) hm;rw[D8 hm] at hstp;generalize hvv:AZ (Aa b) an x1 x2=v at *;simp[zz2 hlt,hA,hL,At];refine AJ 8 (by kernel_rfl) ?_;simp;refine Ab (kA) ?_;simp;refine Ab (kB) ?_;simp;refine Ac (c) [] [3,8] (by simp) ?_;simp;by_cases hv:v<0
         · rw[if_pos hv] at hstp;have hff:=Dp (show (C9 b (Cm a).2.1 (j+1)).2.2=false by rw[hstp]) (b.2.2.1.length - (j+1));rw[show j+1+(b.2.2.1.length - (j+1))=b.2.2.1.length by omega] at hff;have hff2:(Cs a b).2.2=false:=hff;rw[hff2] at hO;simp only[Bool.false_and,Bool.and_false] at hO;rw[hO,if_neg (by simp)] at hG;subst hO hG;simp[hv,zz2 hv,show ¬ 0≤v by omega,Ao]
         rw[if_neg hv] at hstp;simp[hv,zz3 hv,show 0≤v by omega];refine Ab (BF b ⟨m1,m2⟩ m3) ?_;simp[w5,w6,hset,hat,Ao];exact Ae hJ2 hS2 hμ2 (j+1) ⟨by omega,by rw[hstp]⟩ (by omega) ⟨[0,1,2,3,4,5,6,7,8],by simp[hstp,Eu hne]⟩
       · have c:=Cd I (Aa b) an x1 x2 hI20 hfbI ha3 (by omega) (by omega) hm;generalize hvv:AZ (Aa b) an x1 x2=v at *;simp[zz2 hlt,hA,hL,At];refine AJ 8 (by kernel_rfl) ?_;simp;refine Ab (kA) ?_;simp;refine Ab (kB) ?_;simp;refine Ac (c) [] [3,8] (by simp) ?_;simp;by_cases hv:v<0
         · rw[if_pos hv] at hstp;have hff:=Dp (show (C9 b (Cm a).2.1 (j+1)).2.2=false by rw[hstp]) (b.2.2.1.length - (j+1));rw[show j+1+(b.2.2.1.length - (j+1))=b.2.2.1.length by omega] at hff;have hff2:(Cs a b).2.2=false:=hff;rw[hff2] at hO;simp only[Bool.false_and,Bool.and_false] at hO;rw[hO,if_neg (by simp)] at hG;subst hO hG;simp[hv,zz2 hv,show ¬ 0≤v by omega,Ao]
         rw[if_neg hv] at hstp;simp[hv,zz3 hv,show 0≤v by omega];refine Ab (BF b ⟨m1,m2⟩ m3) ?_;simp[w5,w6,hset,hat,Ao];exact Ae hJ2 hS2 hμ2 (j+1) ⟨by omega,by rw[hstp]⟩ (by omega) ⟨[0,1,2,3,4,5,6,7,10],by simp[hstp,Eu (Ff hm)]⟩
   · have hsl:∀ sl,aI a b I 1 sl=sl.set 3 (Yv I 6)++[.arr 26 true ([Bm a (Cm a).1].map Az),.arr 63 true ((Cm a).2.1.map At)]:=fun sl=>by simp[aI,jV,kG,Ik hane]
     rw[hsl];simp[Ou,show (1:Int)<2 by omega,Ao];refine Ab (Jf b hb hob) ?_;simp[Ao];obtain⟨imS,himS⟩:∃ f:Nat→List Int×List Ai×Bool,f=C9 b (Cm a).2.1:=⟨_,rfl⟩;refine AB [false,false,false,false,true,false,true,true,false,true,true,false,false,false,false,false,false,false,false,false,false,false,false,false,false,false,false,false,false,false,false,true,true,true,false,false,false,false,false,false,true,true,true] (fun j:Nat=>j≤b.2.2.1.length∧(C9 b (Cm a).2.1 j).2.2=true∧(C9 b (Cm a).2.1 j).2.1≠[]) (fun j:Nat=>[(42,.d (.int .i64 j))]) (fun j:Nat=>[(8,.arr 3 true ((Er (C9 b (Cm a).2.1 j).1 (A0 b)).map (e1 AC))),(6,.arr 63 true ((C9 b (Cm a).2.1 j).2.1.map At))]) (fun j:Nat=>b.2.2.1.length - j) 0 ?_ ?_ ?_
     · exact⟨Nat.zero_le _,rfl,hane⟩
     · exact⟨[0,1,2,3,4,5,6,7,8],by simp[C9,B0]⟩
     rintro J2 S2 μ2 hJ2 hS2 hμ2 j ⟨hj,hjo,hne0⟩;obtain⟨q1,q2⟩:=p2 j hj;obtain⟨⟨to,an,bb⟩,hst⟩:∃ s,C9 b (Cm a).2.1 j=s:=⟨_,rfl⟩;rw[hst] at hjo q1 q2 hne0;simp only at hjo q2 hne0;obtain rfl:bb=true:=hjo;have hl:=q1.len rfl;have hpl:=q1.pl;have ha3:=q1.an;simp only at hl hpl ha3;rw[hst];by_cases hlt:j<b.2.2.1.length
     case neg =>
      obtain rfl:j=b.2.2.1.length:=by omega
      have hfull:Cs a b=(to,an,true):=hst;have hpall:Er (to,an,true).1 (A0 b)=to:=Po (by simp only;omega);rw[hpall];have hroots:=Iy b hb m3
      have hrlen:(Ay b).length≤1048576:=by
       have h1:=FR (x:=b) (k:=b.2.1.length) (M:=4) (fun s hs=>DE ((AA hob).2.1 s hs));rw[FU] at h1;omega
      have hmap:=Kd to (Ay b) (by omega) hrlen (fun l hl=>by have:=OI hob hl;unfold VL at this;omega);have hrM:(Ay b).map (Aq to)=Bm b (Cs a b).1:=by rw[hfull];rfl
      rw[hrM] at hmap;have hne:an≠[]:=hne0;simp[zz3 hlt,hlt];refine Ab (hroots) ?_;simp[Ao];refine Ab (hmap) ?_;simp
      first | refine Bs (q:=1) AM (by exact rfl) (by simp) (by exact rfl) (by exact rfl) (by simp) (by simp) (by first | (simp;done)|(simp;omega)) ?_|refine Br AM (by exact rfl) (by simp) (by exact rfl) (by simp) (by first | (simp;done)|(simp;omega)) ?_
      simp[show IntKind.i64.wrap 1=1 from rfl,show IntKind.i64.wrap 2=2 from rfl];exact Ae hJ hS hμ 2 ⟨by omega,fun _=>hi1 (by omega),fun h=>by rw[hfull]⟩ (by omega) ⟨[0,1,2,3,4,12,6],by simp[aI,Ou,jV,kG,hfull,Ik hne,Az,e1]⟩
     obtain⟨hA,a1,a2,a3,a4,a5,a6⟩:=CW hob (v:=Aa b+j) (by omega) (by omega);rw[Nat.add_sub_cancel_left] at hA;have hstp:=MQ hst;generalize Aj b (Aa b+j)=A at *;have hL:(At A).length=2:=rfl;have r1:=Bn (l:=A.1) (BH hpl (by omega) (A.1 / 2)) (by omega);have r2:=Bn (l:=A.2) (BH hpl (by omega) (A.2 / 2)) (by omega);have hplen:=Mk (p:=to) (n:=A0 b) (by omega);have kA:=Fx (Er to (A0 b)) A.1 (by omega) (by omega);have kB:=Fx (Er to (A0 b)) A.2 (by omega) (by omega);rw[QO (by omega)] at kA kB;have hset:=fun v:Int=>Kv (p:=to) (n:=A0 b) (v:=v) (by omega);have hat:(Er to (A0 b))[to.length]? = some (A1 (Er to (A0 b)) to.length):=B8 (k:=to.length) (by omega);have w5:IntKind.i64.wrap (1+b.1+(b.2.1.length:Int)+(j:Int))=(to.length:Int):=by rw[Ad (by omega) (by omega)];omega
     have w6:IntKind.i64.wrap ((j:Int)+1)=(j:Int)+1:=Ad (by omega) (by omega);generalize Aq to A.1=x1 at *;generalize Aq to A.2=x2 at *;have hneg:=Mf (fa:=Aa b) (an:=an) (a:=x1) (b:=x2) (by omega) (by omega) (by omega);generalize A1 (Er to (A0 b)) to.length=pv at *
     cases hm:A8 an x1 x2
     · have c:=B1 I (Aa b) an x1 x2 hI20 hfbI ha3 (by omega) (by omega) hm;rw[D8 hm] at hstp;generalize hvv:AZ (Aa b) an x1 x2=v at *;simp[zz2 hlt,hA,hL,At];refine AJ 8 (by kernel_rfl) ?_;simp;refine Ab (kA) ?_;simp;refine Ab (kB) ?_;simp;refine Ac (c) [] [3,6] (by simp) ?_;simp;by_cases hv:v<0
       · rw[if_pos hv] at hstp;have hff:=Dp (show (C9 b (Cm a).2.1 (j+1)).2.2=false by rw[hstp]) (b.2.2.1.length - (j+1));rw[show j+1+(b.2.2.1.length - (j+1))=b.2.2.1.length by omega] at hff;have hff2:(Cs a b).2.2=false:=hff;rw[hff2] at hO;simp only[Bool.false_and,Bool.and_false] at hO;rw[hO,if_neg (by simp)] at hG;subst hO hG;simp[hv,zz2 hv,show ¬ 0≤v by omega,Ao]
       rw[if_neg hv] at hstp;simp[hv,zz3 hv,show 0≤v by omega];refine Ab (BF b ⟨m1,m2⟩ m3) ?_;simp[w5,w6,hset,hat,Ao];exact Ae hJ2 hS2 hμ2 (j+1) ⟨by omega,by rw[hstp],by rw[hstp];exact hne0⟩ (by omega) ⟨[0,1,2,3,4,5,6,7,8],by simp[hstp]⟩
     · have c:=Cd I (Aa b) an x1 x2 hI20 hfbI ha3 (by omega) (by omega) hm;generalize hvv:AZ (Aa b) an x1 x2=v at *;simp[zz2 hlt,hA,hL,At];refine AJ 8 (by kernel_rfl) ?_;simp;refine Ab (kA) ?_;simp;refine Ab (kB) ?_;simp;refine Ac (c) [] [3,6] (by simp) ?_;simp;by_cases hv:v<0
       · rw[if_pos hv] at hstp;have hff:=Dp (show (C9 b (Cm a).2.1 (j+1)).2.2=false by rw[hstp]) (b.2.2.1.length - (j+1));rw[show j+1+(b.2.2.1.length - (j+1))=b.2.2.1.length by omega] at hff;have hff2:(Cs a b).2.2=false:=hff;rw[hff2] at hO;simp only[Bool.false_and,Bool.and_false] at hO;rw[hO,if_neg (by simp)] at hG;subst hO hG;simp[hv,zz2 hv,show ¬ 0≤v by omega,Ao]
       rw[if_neg hv] at hstp;simp[hv,zz3 hv,show 0≤v by omega];refine Ab (BF b ⟨m1,m2⟩ m3) ?_;simp[w5,w6,hset,hat,Ao];exact Ae hJ2 hS2 hμ2 (j+1) ⟨by omega,by rw[hstp],by rw[hstp];exact mU hne0⟩ (by omega) ⟨[0,1,2,3,4,5,10,7,8],by simp[hstp]⟩
 · have hf1:=hi1 (by omega);have hf2:=hi2 (by omega);rw[hf1,hf2] at hO;simp only[Bool.true_and] at hO;obtain⟨q1,-⟩:=p2 b.2.2.1.length (Nat.le_refl _);obtain⟨t1,-⟩:=p1 a.2.2.1.length (Nat.le_refl _);have hplB:=q1.pl;have hplA:=t1.pl;have hanB:=q1.an;have hle12:(Cm a).2.1.length≤(Cs a b).2.1.length:=(p2 b.2.2.1.length (Nat.le_refl _)).2;have hMr:DC a b=Bd (Aa a) (Bm a (Cm a).1) (Bm b (Cs a b).1) (Cs a b).2.1 (Ay a).length:=rfl;have hra:(Bm a (Cm a).1).length=(Ay a).length:=by simp[Bm]
   have hrb:(Bm b (Cs a b).1).length=(Ay a).length:=by simp[Bm,hrl]
   have hrA:∀ k:Int,k∈Bm a (Cm a).1→0≤k∧k<2*((Aa a:Int)+(Cs a b).2.1.length):=fun k hk=>by
    obtain⟨l,-,rfl⟩:=ABc.1 hk;have e2:(C9 a [] a.2.2.1.length).2.1.length=(Cm a).2.1.length:=rfl;have hq:Jw ((Aa a:Int)+(Cs a b).2.1.length) (Cm a).1:=Hi hplA (by omega);have hb3:(Cs a b).2.1.length≤300:=hanB;exact Bn (BH hq (by omega) _) (by omega)
   have hrB:∀ k:Int,k∈Bm b (Cs a b).1→0≤k∧k<2*((Aa a:Int)+(Cs a b).2.1.length):=fun k hk=>by
    obtain⟨l,-,rfl⟩:=ABc.1 hk;have hb3:(Cs a b).2.1.length≤300:=hanB;rw[hfb] at hplB
    exact Bn (BH hplB (by have:(0:Int)≤(Cs a b).2.1.length:=by omega
                          omega) _) (by omega)
   have hb3:(Cs a b).2.1.length≤300:=hanB;have hlsM:jV a b 2=[Bm a (Cm a).1,Bm b (Cs a b).1]:=rfl;have hanM:kG a b 2=(Cs a b).2.1:=rfl;have hslM:∀ sl,aI a b I 2 sl=Xi I (jV a b 2) (kG a b 2) sl:=fun sl=>rfl;rw[hslM,hlsM,hanM];clear hplA hplB q1 t1 p1 p2 hS hJ hμ hanB;have hnr0:=FR (x:=a) (k:=a.2.1.length) (M:=4) (fun s hs=>DE ((AA hoa).2.1 s hs));rw[FU] at hnr0;generalize Bm a (Cm a).1=ra at *;generalize Bm b (Cs a b).1=rb at *;generalize (Cs a b).2.1=an0 at *;generalize DC a b=MR at *;have hrl16:=hra;generalize (Ay a).length=nr at *;have hnr:nr≤64:=by omega
   by_cases han0:an0=[]
   · subst han0;rw[L7];simp[Ou,show ¬ (2:Int)<2 by omega,Az,e1];refine AH [false,false,false,false,true,false,true,true,false,false,false,false,false,false,true,false,false,false,false,false,false,false,false,false,false,false,false,false,false,false,false,false,false,false,false,false,false,false,false,false,false,false,false,false,false,false,false,false,false,false,false,false,false,false,false,false,false,false,false,false,false,false,false,false,false,false,false,false,false,false,false,false,false,false,false,false,false,false,true,true] (fun i:Nat=>i≤nr∧(Bd (Aa a) ra rb [] i).2.2=true) (fun i:Nat=>[(14,.d (.int .i64 (Bd (Aa a) ra rb [] i).1)),(79,.d (.int .i64 i))]) (fun i:Nat=>wU I (Bd (Aa a) ra rb [] i).2.1) (fun i:Nat=>nr - i) 0 ?_ ?_ ?_
     · exact⟨Nat.zero_le _,rfl⟩
     · exact⟨[0,1,2,3,4,5],by simp[Bd,OM,hra]⟩
     rintro J2 S2 μ2 hJ2 hS2 hμ2 i ⟨hi,hio⟩;obtain⟨⟨sv,an,bb⟩,hst⟩:∃ s,Bd (Aa a) ra rb [] i=s:=⟨_,rfl⟩;have hgf:=EF (fa:=Aa a) (ra:=ra) (rb:=rb) (an0:=[]) (by omega) (by simp) hrA hrB (by omega) (by omega) i hi;rw[hst] at hio hgf;simp only at hio;subst hio;rw[hst];obtain⟨g1,g2,g3⟩:=hgf rfl;simp only at g1 g2 g3;by_cases hlt:i<nr
     case neg =>
      obtain rfl:i=nr:=by omega
      rw[hst] at hMr;subst hMr;simp only at hO;rw[hO,if_pos rfl] at hG;subst hO hG;by_cases hne:an=[]
      · subst hne;rw[OM];simp[zz3 hlt,hlt,hra,Ao]
      · rw[F5 hne];simp[zz3 hlt,hlt,hra,Ao]
     have hx1:ra[i]? = some (ra.getD i 0):=by rw[List.getD_eq_getElem?_getD,zz0 (by omega)];rfl
     have hx2:rb[i]? = some (rb.getD i 0):=by rw[List.getD_eq_getElem?_getD,zz0 (by omega)];rfl
     have b1:=hrA _ (zz6 hx1);have b2:=hrB _ (zz6 hx2);have hstp:=Fv hst;generalize ra.getD i 0=xa at *;generalize rb.getD i 0=xb at *;have w6:IntKind.i64.wrap ((i:Int)+1)=(i:Int)+1:=Ad (by omega) (by omega);have hLr:∀ x:BT,(Az x).length=1:=fun _=>rfl;by_cases hne:an=[]
     · subst hne;rw[OM];have xr:=HJ (fa:=Aa a) (an:=[]) (a:=xa) (b:=xb) (by omega) g3 (by omega) (by omega);have cxsame:=Rs I (Aa a) xa xb hI20 hfaI g3 (by omega) (by omega);have cxnew:=Tg I (Aa a) xa xb hI20 hfaI g3 (by omega) (by omega);obtain⟨⟨xv,an1⟩,hX⟩:∃ q,Cv (Aa a) [] xa xb=q:=⟨_,rfl⟩;rw[hX] at xr cxsame cxnew hstp;obtain⟨x1,x2,x3,x4⟩:=xr;simp only at x1 x2 x3 x4 hstp;by_cases hm:an1=[]
       · have c:=cxsame hm;subst hm;simp[zz2 hlt,hlt,hra,hLr,Az];refine AJ 12 (by kernel_rfl) ?_;simp[hx1,hx2,hLr,Az];refine Ac (c) [] [3] (by simp) ?_;simp;by_cases hv:xv<0
         · rw[if_pos hv] at hstp;have hff:=Bq (show (Bd (Aa a) ra rb [] (i+1)).2.2=false by rw[hstp]) (nr - (i+1));rw[show i+1+(nr - (i+1))=nr by omega,←hMr] at hff;rw[hff] at hO;rw[hO,if_neg (by simp)] at hG;subst hO hG;simp[hv,zz2 hv,show ¬ 0≤xv by omega,Ao]
         rw[if_neg hv] at hstp;have xo:=G7 (fa:=Aa a) (an:=[]) (a:=sv) (b:=xv) (by omega) (by omega) (by omega);have cosame:=IV I (Aa a) sv xv hI20 hfaI x4 (by omega) (by omega);have conew:=JQ I (Aa a) sv xv hI20 hfaI x4 (by omega) (by omega);have hsame:A8 [] (Af sv) (Af xv)=false→[]=Ar [] (Af sv) (Af xv):=fun h=>(D8 h).symm;generalize F7 (Aa a) [] sv xv=ov at *;have hnewN:A8 [] (Af sv) (Af xv)=true→Ar [] (Af sv) (Af xv)≠[]:=Ff;generalize Ar [] (Af sv) (Af xv)=an2 at *;generalize A8 [] (Af sv) (Af xv)=mo at *;simp[hv,zz3 hv,show 0≤xv by omega]
         cases mo
         · have c2:=cosame rfl;obtain rfl:=hsame rfl;refine Ac (c2) [] [3] (by simp) ?_;simp;by_cases hv2:ov<0
           · rw[if_pos hv2] at hstp;have hff:=Bq (show (Bd (Aa a) ra rb [] (i+1)).2.2=false by rw[hstp]) (nr - (i+1));rw[show i+1+(nr - (i+1))=nr by omega,←hMr] at hff;rw[hff] at hO;rw[hO,if_neg (by simp)] at hG;subst hO hG;simp[hv2,zz2 hv2,show ¬ 0≤ov by omega,Ao]
           rw[if_neg hv2] at hstp;simp[hv2,zz3 hv2,show 0≤ov by omega,w6];exact Ae hJ2 hS2 hμ2 (i+1) ⟨by omega,by rw[hstp]⟩ (by omega) ⟨[0,1,2,3,4,5],by simp[hstp,hra,OM]⟩
         · have c2:=conew rfl;have hn2:=hnewN rfl;refine Ac (c2) [] [3] (by simp) ?_;simp;by_cases hv2:ov<0
           · rw[if_pos hv2] at hstp;have hff:=Bq (show (Bd (Aa a) ra rb [] (i+1)).2.2=false by rw[hstp]) (nr - (i+1));rw[show i+1+(nr - (i+1))=nr by omega,←hMr] at hff;rw[hff] at hO;rw[hO,if_neg (by simp)] at hG;subst hO hG;simp[hv2,zz2 hv2,show ¬ 0≤ov by omega,Ao]
           rw[if_neg hv2] at hstp;simp[hv2,zz3 hv2,show 0≤ov by omega,w6];exact Ae hJ2 hS2 hμ2 (i+1) ⟨by omega,by rw[hstp]⟩ (by omega) ⟨[0,1,2,3,4,5,6],by simp[hstp,hra,F5 hn2]⟩
       · have c:=cxnew hm;simp[zz2 hlt,hlt,hra,hLr,Az];refine AJ 12 (by kernel_rfl) ?_;simp[hx1,hx2,hLr,Az];refine Ac (c) [] [3] (by simp) ?_;simp;by_cases hv:xv<0
         · rw[if_pos hv] at hstp;have hff:=Bq (show (Bd (Aa a) ra rb [] (i+1)).2.2=false by rw[hstp]) (nr - (i+1));rw[show i+1+(nr - (i+1))=nr by omega,←hMr] at hff;rw[hff] at hO;rw[hO,if_neg (by simp)] at hG;subst hO hG;simp[hv,zz2 hv,show ¬ 0≤xv by omega,Ao]
         rw[if_neg hv] at hstp;have xo:=G7 (fa:=Aa a) (an:=an1) (a:=sv) (b:=xv) (by omega) (by omega) (by omega);have cosame:=Bv I (Aa a) an1 sv xv hI20 hfaI x4 (by omega) (by omega);have conew:=BO I (Aa a) an1 sv xv hI20 hfaI x4 (by omega) (by omega);have hsame:A8 an1 (Af sv) (Af xv)=false→an1=Ar an1 (Af sv) (Af xv):=fun h=>(D8 h).symm;generalize F7 (Aa a) an1 sv xv=ov at *;have hnewN:A8 an1 (Af sv) (Af xv)=true→Ar an1 (Af sv) (Af xv)≠[]:=Ff;generalize Ar an1 (Af sv) (Af xv)=an2 at *;generalize A8 an1 (Af sv) (Af xv)=mo at *;simp[hv,zz3 hv,show 0≤xv by omega]
         cases mo
         · have c2:=cosame rfl;obtain rfl:=hsame rfl;refine Ac (c2) [] [3,6] (by simp) ?_;simp;by_cases hv2:ov<0
           · rw[if_pos hv2] at hstp;have hff:=Bq (show (Bd (Aa a) ra rb [] (i+1)).2.2=false by rw[hstp]) (nr - (i+1));rw[show i+1+(nr - (i+1))=nr by omega,←hMr] at hff;rw[hff] at hO;rw[hO,if_neg (by simp)] at hG;subst hO hG;simp[hv2,zz2 hv2,show ¬ 0≤ov by omega,Ao]
           rw[if_neg hv2] at hstp;simp[hv2,zz3 hv2,show 0≤ov by omega,w6];have hn2:an1≠[]:=hm;exact Ae hJ2 hS2 hμ2 (i+1) ⟨by omega,by rw[hstp]⟩ (by omega) ⟨[0,1,2,3,4,5,6],by simp[hstp,hra,F5 hn2]⟩
         · have c2:=conew rfl;have hn2:=hnewN rfl;refine Ac (c2) [] [3,6] (by simp) ?_;simp;by_cases hv2:ov<0
           · rw[if_pos hv2] at hstp;have hff:=Bq (show (Bd (Aa a) ra rb [] (i+1)).2.2=false by rw[hstp]) (nr - (i+1));rw[show i+1+(nr - (i+1))=nr by omega,←hMr] at hff;rw[hff] at hO;rw[hO,if_neg (by simp)] at hG;subst hO hG;simp[hv2,zz2 hv2,show ¬ 0≤ov by omega,Ao]
           rw[if_neg hv2] at hstp;simp[hv2,zz3 hv2,show 0≤ov by omega,w6];exact Ae hJ2 hS2 hμ2 (i+1) ⟨by omega,by rw[hstp]⟩ (by omega) ⟨[0,1,2,3,4,5,7],by simp[hstp,hra,F5 hn2]⟩
     · rw[F5 hne];have xr:=HJ (fa:=Aa a) (an:=an) (a:=xa) (b:=xb) (by omega) g3 (by omega) (by omega);have cxsame:=K0 I (Aa a) an xa xb hI20 hfaI g3 (by omega) (by omega);have cxnew:=Ml I (Aa a) an xa xb hI20 hfaI g3 (by omega) (by omega);obtain⟨⟨xv,an1⟩,hX⟩:∃ q,Cv (Aa a) an xa xb=q:=⟨_,rfl⟩;rw[hX] at xr cxsame cxnew hstp;obtain⟨x1,x2,x3,x4⟩:=xr;simp only at x1 x2 x3 x4 hstp;by_cases hm:an1=an
       · have c:=cxsame hm;obtain rfl:an=an1:=hm.symm;simp[zz2 hlt,hlt,hra,hLr,Az];refine AJ 12 (by kernel_rfl) ?_;simp[hx1,hx2,hLr,Az];refine Ac (c) [] [3,6] (by simp) ?_;simp;by_cases hv:xv<0
         · rw[if_pos hv] at hstp;have hff:=Bq (show (Bd (Aa a) ra rb [] (i+1)).2.2=false by rw[hstp]) (nr - (i+1));rw[show i+1+(nr - (i+1))=nr by omega,←hMr] at hff;rw[hff] at hO;rw[hO,if_neg (by simp)] at hG;subst hO hG;simp[hv,zz2 hv,show ¬ 0≤xv by omega,Ao]
         rw[if_neg hv] at hstp;have xo:=G7 (fa:=Aa a) (an:=an) (a:=sv) (b:=xv) (by omega) (by omega) (by omega);have cosame:=Bv I (Aa a) an sv xv hI20 hfaI x4 (by omega) (by omega);have conew:=BO I (Aa a) an sv xv hI20 hfaI x4 (by omega) (by omega);have hsame:A8 an (Af sv) (Af xv)=false→an=Ar an (Af sv) (Af xv):=fun h=>(D8 h).symm;generalize F7 (Aa a) an sv xv=ov at *;have hnewN:A8 an (Af sv) (Af xv)=true→Ar an (Af sv) (Af xv)≠[]:=Ff;generalize Ar an (Af sv) (Af xv)=an2 at *;generalize A8 an (Af sv) (Af xv)=mo at *;simp[hv,zz3 hv,show 0≤xv by omega]
         cases mo
         · have c2:=cosame rfl;obtain rfl:=hsame rfl;refine Ac (c2) [] [3,6] (by simp) ?_;simp;by_cases hv2:ov<0
           · rw[if_pos hv2] at hstp;have hff:=Bq (show (Bd (Aa a) ra rb [] (i+1)).2.2=false by rw[hstp]) (nr - (i+1));rw[show i+1+(nr - (i+1))=nr by omega,←hMr] at hff;rw[hff] at hO;rw[hO,if_neg (by simp)] at hG;subst hO hG;simp[hv2,zz2 hv2,show ¬ 0≤ov by omega,Ao]
           rw[if_neg hv2] at hstp;simp[hv2,zz3 hv2,show 0≤ov by omega,w6];exact Ae hJ2 hS2 hμ2 (i+1) ⟨by omega,by rw[hstp]⟩ (by omega) ⟨[0,1,2,3,4,5,6],by simp[hstp,hra,F5 hne]⟩
         · have c2:=conew rfl;have hn2:=hnewN rfl;refine Ac (c2) [] [3,6] (by simp) ?_;simp;by_cases hv2:ov<0
           · rw[if_pos hv2] at hstp;have hff:=Bq (show (Bd (Aa a) ra rb [] (i+1)).2.2=false by rw[hstp]) (nr - (i+1));rw[show i+1+(nr - (i+1))=nr by omega,←hMr] at hff;rw[hff] at hO;rw[hO,if_neg (by simp)] at hG;subst hO hG;simp[hv2,zz2 hv2,show ¬ 0≤ov by omega,Ao]
           rw[if_neg hv2] at hstp;simp[hv2,zz3 hv2,show 0≤ov by omega,w6];exact Ae hJ2 hS2 hμ2 (i+1) ⟨by omega,by rw[hstp]⟩ (by omega) ⟨[0,1,2,3,4,5,7],by simp[hstp,hra,F5 hn2]⟩
       · have c:=cxnew hm;simp[zz2 hlt,hlt,hra,hLr,Az];refine AJ 12 (by kernel_rfl) ?_;simp[hx1,hx2,hLr,Az];refine Ac (c) [] [3,6] (by simp) ?_;simp;by_cases hv:xv<0
         · rw[if_pos hv] at hstp;have hff:=Bq (show (Bd (Aa a) ra rb [] (i+1)).2.2=false by rw[hstp]) (nr - (i+1));rw[show i+1+(nr - (i+1))=nr by omega,←hMr] at hff;rw[hff] at hO;rw[hO,if_neg (by simp)] at hG;subst hO hG;simp[hv,zz2 hv,show ¬ 0≤xv by omega,Ao]
         rw[if_neg hv] at hstp;have xo:=G7 (fa:=Aa a) (an:=an1) (a:=sv) (b:=xv) (by omega) (by omega) (by omega);have cosame:=Bv I (Aa a) an1 sv xv hI20 hfaI x4 (by omega) (by omega);have conew:=BO I (Aa a) an1 sv xv hI20 hfaI x4 (by omega) (by omega);have hsame:A8 an1 (Af sv) (Af xv)=false→an1=Ar an1 (Af sv) (Af xv):=fun h=>(D8 h).symm;generalize F7 (Aa a) an1 sv xv=ov at *;have hnewN:A8 an1 (Af sv) (Af xv)=true→Ar an1 (Af sv) (Af xv)≠[]:=Ff;generalize Ar an1 (Af sv) (Af xv)=an2 at *;generalize A8 an1 (Af sv) (Af xv)=mo at *;simp[hv,zz3 hv,show 0≤xv by omega]
         cases mo
         · have c2:=cosame rfl;obtain rfl:=hsame rfl;refine Ac (c2) [] [3,7] (by simp) ?_;simp;by_cases hv2:ov<0
           · rw[if_pos hv2] at hstp;have hff:=Bq (show (Bd (Aa a) ra rb [] (i+1)).2.2=false by rw[hstp]) (nr - (i+1));rw[show i+1+(nr - (i+1))=nr by omega,←hMr] at hff;rw[hff] at hO;rw[hO,if_neg (by simp)] at hG;subst hO hG;simp[hv2,zz2 hv2,show ¬ 0≤ov by omega,Ao]
           rw[if_neg hv2] at hstp;simp[hv2,zz3 hv2,show 0≤ov by omega,w6];have hn2:an1≠[]:=Q3 (by have:=List.length_pos_iff.2 hne;omega);exact Ae hJ2 hS2 hμ2 (i+1) ⟨by omega,by rw[hstp]⟩ (by omega) ⟨[0,1,2,3,4,5,7],by simp[hstp,hra,F5 hn2]⟩
         · have c2:=conew rfl;have hn2:=hnewN rfl;refine Ac (c2) [] [3,7] (by simp) ?_;simp;by_cases hv2:ov<0
           · rw[if_pos hv2] at hstp;have hff:=Bq (show (Bd (Aa a) ra rb [] (i+1)).2.2=false by rw[hstp]) (nr - (i+1));rw[show i+1+(nr - (i+1))=nr by omega,←hMr] at hff;rw[hff] at hO;rw[hO,if_neg (by simp)] at hG;subst hO hG;simp[hv2,zz2 hv2,show ¬ 0≤ov by omega,Ao]
           rw[if_neg hv2] at hstp;simp[hv2,zz3 hv2,show 0≤ov by omega,w6];exact Ae hJ2 hS2 hμ2 (i+1) ⟨by omega,by rw[hstp]⟩ (by omega) ⟨[0,1,2,3,4,5,8],by simp[hstp,hra,F5 hn2]⟩
   · rw[Ik han0];simp[Ou,show ¬ (2:Int)<2 by omega,Az,e1];refine AB [false,false,false,false,true,false,true,true,false,false,false,false,false,false,true,false,false,false,false,false,false,false,false,false,false,false,false,false,false,false,false,false,false,false,false,false,false,false,false,false,false,false,false,false,false,false,false,false,false,false,false,false,false,false,false,false,false,false,false,false,false,false,false,false,false,false,false,false,false,false,false,false,false,false,false,false,false,false,true,true] (fun i:Nat=>i≤nr∧(Bd (Aa a) ra rb an0 i).2.2=true) (fun i:Nat=>[(14,.d (.int .i64 (Bd (Aa a) ra rb an0 i).1)),(79,.d (.int .i64 i))]) (fun i:Nat=>[(6,.arr 63 true ((Bd (Aa a) ra rb an0 i).2.1.map At))]) (fun i:Nat=>nr - i) 0 ?_ ?_ ?_
     · exact⟨Nat.zero_le _,rfl⟩
     · exact⟨[0,1,2,3,4,5,6],by simp[Bd,hra]⟩
     rintro J2 S2 μ2 hJ2 hS2 hμ2 i ⟨hi,hio⟩;obtain⟨⟨sv,an,bb⟩,hst⟩:∃ s,Bd (Aa a) ra rb an0 i=s:=⟨_,rfl⟩;have hgf:=EF (fa:=Aa a) (ra:=ra) (rb:=rb) (an0:=an0) (by omega) hb3 hrA hrB (by omega) (by omega) i hi;rw[hst] at hio hgf;simp only at hio;subst hio;rw[hst];obtain⟨g1,g2,g3⟩:=hgf rfl;simp only at g1 g2 g3;by_cases hlt:i<nr
     case neg =>
      obtain rfl:i=nr:=by omega
      rw[hst] at hMr;subst hMr;simp only at hO;rw[hO,if_pos rfl] at hG;subst hO hG;simp[zz3 hlt,hlt,hra,Ao]
     have hx1:ra[i]? = some (ra.getD i 0):=by rw[List.getD_eq_getElem?_getD,zz0 (by omega)];rfl
     have hx2:rb[i]? = some (rb.getD i 0):=by rw[List.getD_eq_getElem?_getD,zz0 (by omega)];rfl
     have b1:=hrA _ (zz6 hx1);have b2:=hrB _ (zz6 hx2);have hstp:=Fv hst;generalize ra.getD i 0=xa at *;generalize rb.getD i 0=xb at *;have w6:IntKind.i64.wrap ((i:Int)+1)=(i:Int)+1:=Ad (by omega) (by omega);have hLr:∀ x:BT,(Az x).length=1:=fun _=>rfl;have xr:=HJ (fa:=Aa a) (an:=an) (a:=xa) (b:=xb) (by omega) g3 (by omega) (by omega);have cxsame:=K0 I (Aa a) an xa xb hI20 hfaI g3 (by omega) (by omega);have cxnew:=Ml I (Aa a) an xa xb hI20 hfaI g3 (by omega) (by omega);obtain⟨⟨xv,an1⟩,hX⟩:∃ q,Cv (Aa a) an xa xb=q:=⟨_,rfl⟩;rw[hX] at xr cxsame cxnew hstp;obtain⟨x1,x2,x3,x4⟩:=xr;simp only at x1 x2 x3 x4 hstp;by_cases hm:an1=an
     · have c:=cxsame hm;obtain rfl:an=an1:=hm.symm;simp[zz2 hlt,hlt,hra,hLr,Az];refine AJ 12 (by kernel_rfl) ?_;simp[hx1,hx2,hLr,Az];refine Ac (c) [] [3,6] (by simp) ?_;simp;by_cases hv:xv<0
       · rw[if_pos hv] at hstp;have hff:=Bq (show (Bd (Aa a) ra rb an0 (i+1)).2.2=false by rw[hstp]) (nr - (i+1));rw[show i+1+(nr - (i+1))=nr by omega,←hMr] at hff;rw[hff] at hO;rw[hO,if_neg (by simp)] at hG;subst hO hG;simp[hv,zz2 hv,show ¬ 0≤xv by omega,Ao]
       rw[if_neg hv] at hstp;have xo:=G7 (fa:=Aa a) (an:=an) (a:=sv) (b:=xv) (by omega) (by omega) (by omega);have cosame:=Bv I (Aa a) an sv xv hI20 hfaI x4 (by omega) (by omega);have conew:=BO I (Aa a) an sv xv hI20 hfaI x4 (by omega) (by omega);have hsame:A8 an (Af sv) (Af xv)=false→an=Ar an (Af sv) (Af xv):=fun h=>(D8 h).symm;generalize F7 (Aa a) an sv xv=ov at *;have hnewN:A8 an (Af sv) (Af xv)=true→Ar an (Af sv) (Af xv)≠[]:=Ff;generalize Ar an (Af sv) (Af xv)=an2 at *;generalize A8 an (Af sv) (Af xv)=mo at *;simp[hv,zz3 hv,show 0≤xv by omega]
       cases mo
       · have c2:=cosame rfl;obtain rfl:=hsame rfl;refine Ac (c2) [] [3,6] (by simp) ?_;simp;by_cases hv2:ov<0
         · rw[if_pos hv2] at hstp;have hff:=Bq (show (Bd (Aa a) ra rb an0 (i+1)).2.2=false by rw[hstp]) (nr - (i+1));rw[show i+1+(nr - (i+1))=nr by omega,←hMr] at hff;rw[hff] at hO;rw[hO,if_neg (by simp)] at hG;subst hO hG;simp[hv2,zz2 hv2,show ¬ 0≤ov by omega,Ao]
         rw[if_neg hv2] at hstp;simp[hv2,zz3 hv2,show 0≤ov by omega,w6];exact Ae hJ2 hS2 hμ2 (i+1) ⟨by omega,by rw[hstp]⟩ (by omega) ⟨[0,1,2,3,4,5,6],by simp[hstp,hra]⟩
       · have c2:=conew rfl;have hn2:=hnewN rfl;refine Ac (c2) [] [3,6] (by simp) ?_;simp;by_cases hv2:ov<0
         · rw[if_pos hv2] at hstp;have hff:=Bq (show (Bd (Aa a) ra rb an0 (i+1)).2.2=false by rw[hstp]) (nr - (i+1));rw[show i+1+(nr - (i+1))=nr by omega,←hMr] at hff;rw[hff] at hO;rw[hO,if_neg (by simp)] at hG;subst hO hG;simp[hv2,zz2 hv2,show ¬ 0≤ov by omega,Ao]
         rw[if_neg hv2] at hstp;simp[hv2,zz3 hv2,show 0≤ov by omega,w6];exact Ae hJ2 hS2 hμ2 (i+1) ⟨by omega,by rw[hstp]⟩ (by omega) ⟨[0,1,2,3,4,5,7],by simp[hstp,hra]⟩
     · have c:=cxnew hm;simp[zz2 hlt,hlt,hra,hLr,Az];refine AJ 12 (by kernel_rfl) ?_;simp[hx1,hx2,hLr,Az];refine Ac (c) [] [3,6] (by simp) ?_;simp;by_cases hv:xv<0
       · rw[if_pos hv] at hstp;have hff:=Bq (show (Bd (Aa a) ra rb an0 (i+1)).2.2=false by rw[hstp]) (nr - (i+1));rw[show i+1+(nr - (i+1))=nr by omega,←hMr] at hff;rw[hff] at hO;rw[hO,if_neg (by simp)] at hG;subst hO hG;simp[hv,zz2 hv,show ¬ 0≤xv by omega,Ao]
       rw[if_neg hv] at hstp;have xo:=G7 (fa:=Aa a) (an:=an1) (a:=sv) (b:=xv) (by omega) (by omega) (by omega);have cosame:=Bv I (Aa a) an1 sv xv hI20 hfaI x4 (by omega) (by omega);have conew:=BO I (Aa a) an1 sv xv hI20 hfaI x4 (by omega) (by omega);have hsame:A8 an1 (Af sv) (Af xv)=false→an1=Ar an1 (Af sv) (Af xv):=fun h=>(D8 h).symm;generalize F7 (Aa a) an1 sv xv=ov at *;have hnewN:A8 an1 (Af sv) (Af xv)=true→Ar an1 (Af sv) (Af xv)≠[]:=Ff;generalize Ar an1 (Af sv) (Af xv)=an2 at *;generalize A8 an1 (Af sv) (Af xv)=mo at *;simp[hv,zz3 hv,show 0≤xv by omega]
       cases mo
       · have c2:=cosame rfl;obtain rfl:=hsame rfl;refine Ac (c2) [] [3,7] (by simp) ?_;simp;by_cases hv2:ov<0
         · rw[if_pos hv2] at hstp;have hff:=Bq (show (Bd (Aa a) ra rb an0 (i+1)).2.2=false by rw[hstp]) (nr - (i+1));rw[show i+1+(nr - (i+1))=nr by omega,←hMr] at hff;rw[hff] at hO;rw[hO,if_neg (by simp)] at hG;subst hO hG;simp[hv2,zz2 hv2,show ¬ 0≤ov by omega,Ao]
         rw[if_neg hv2] at hstp;simp[hv2,zz3 hv2,show 0≤ov by omega,w6];exact Ae hJ2 hS2 hμ2 (i+1) ⟨by omega,by rw[hstp]⟩ (by omega) ⟨[0,1,2,3,4,5,7],by simp[hstp,hra]⟩
       · have c2:=conew rfl;have hn2:=hnewN rfl;refine Ac (c2) [] [3,7] (by simp) ?_;simp;by_cases hv2:ov<0
         · rw[if_pos hv2] at hstp;have hff:=Bq (show (Bd (Aa a) ra rb an0 (i+1)).2.2=false by rw[hstp]) (nr - (i+1));rw[show i+1+(nr - (i+1))=nr by omega,←hMr] at hff;rw[hff] at hO;rw[hO,if_neg (by simp)] at hG;subst hO hG;simp[hv2,zz2 hv2,show ¬ 0≤ov by omega,Ao]
         rw[if_neg hv2] at hstp;simp[hv2,zz3 hv2,show 0≤ov by omega,w6];exact Ae hJ2 hS2 hμ2 (i+1) ⟨by omega,by rw[hstp]⟩ (by omega) ⟨[0,1,2,3,4,5,8],by simp[hstp,hra]⟩
end Go.Proofs.YtnjedabjbeipeaaGreat
