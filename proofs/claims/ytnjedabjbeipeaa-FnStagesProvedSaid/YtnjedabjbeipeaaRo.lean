/-
  The net that compares two nets, by an abstract walk: the program.
  Conditions: those typed in each theorem.
-/
import Derived.Test.YtnjedabjbeipeaaRn
namespace Go.Proofs.Ytnjedabjbeipeaa
open Go.RowKit Go.ChangeShapes Go.WideShapes
set_option linter.unusedSimpArgs false
set_option linter.unusedVariables false
set_option maxRecDepth 100000
set_option maxHeartbeats 10000000
def jW (a b:AB) (i:Nat):List BB:=if i=1 then [BH a (Cc a).1] else [BH a (Cc a).1,BH b (Ci a b).1]
def jX (a b:AB) (i:Nat):List Ah:=if i=1 then (Cc a).2.1 else (Ci a b).2.1
abbrev X0 (I:Int) (k:Nat):Ag:=.var 28 [.d (.int .i64 I),.nil 31,.ref k,.nil 3]
def Xv (I:Int) (ls:List BB) (an:List Ah) (sl:List Ag):List Ag :=
 if an=[] then sl++[.arr 26 true (ls.map Aq)] else sl.set 3 (X0 I 6)++[.arr 26 true (ls.map Aq),.arr 60 true (an.map Ao)]
theorem LQ {I:Int} {ls:List BB} {sl:List Ag}:Xv I ls [] sl=sl++[.arr 26 true (ls.map Aq)]:=by simp[Xv]
theorem Ir {I:Int} {ls:List BB} {an:List Ah} {sl:List Ag} (h:an≠[]):Xv I ls an sl=sl.set 3 (X0 I 6)++[.arr 26 true (ls.map Aq),.arr 60 true (an.map Ao)]:=by simp[Xv,h]
def Ok (i:Nat):V:=if i=0 then .nil 26 else .ref 5
def Zx (a b:AB) (I:Int) (i:Nat) (sl:List Ag):List Ag:=if i=0 then sl else Xv I (jW a b i) (jX a b i) sl
def Zv (I:Int) (p k:Nat) (pl:List Int) (an:List Ah) (sl:List Ag):List Ag :=
 if an=[] then sl.set p (.arr 3 true (pl.map (e1 Az))) else (sl.set p (.arr 3 true (pl.map (e1 Az)))).set 3 (X0 I k)++[.arr 60 true (an.map Ao)]
theorem GC {I:Int} {p k:Nat} {pl:List Int} {sl:List Ag}:Zv I p k pl [] sl=sl.set p (.arr 3 true (pl.map (e1 Az))):=by simp[Zv]
theorem D8 {I:Int} {p k:Nat} {pl:List Int} {an:List Ah} {sl:List Ag} (h:an≠[]):Zv I p k pl an sl=(sl.set p (.arr 3 true (pl.map (e1 Az)))).set 3 (X0 I k)++[.arr 60 true (an.map Ao)]:=by simp[Zv,h]
def wT (I:Int) (an:List Ah) (sl:List Ag):List Ag:=if an=[] then sl else sl.set 3 (X0 I 6)++[.arr 60 true (an.map Ao)]
theorem Ol {I:Int} {sl:List Ag}:wT I [] sl=sl:=by simp[wT]
theorem FE {I:Int} {an:List Ah} {sl:List Ag} (h:an≠[]):wT I an sl=sl.set 3 (X0 I 6)++[.arr 60 true (an.map Ao)]:=by simp[wT,h]
theorem lP {an:List Ah} {a b:Int} (h:an≠[]):Ak an a b≠[]:=by
 unfold Ak;split
 · simp
 · exact h
theorem EU {an:List Ah} {a b:Int} (h:AV an a b=true):Ak an a b≠[]:=by unfold Ak;rw[if_pos h];simp
theorem DL {an:List Ah} {a b:Int} (h:AV an a b=false):Ak an a b=an:=by unfold Ak;rw[if_neg (by simp[h])]
theorem QS {α:Type} {xs:List α} (h:0<xs.length):xs≠[]:=fun e=>by rw[e] at h;simp at h
theorem PK (a b:AB) (ha:DQ 1048576 a) (hb:DQ 1048576 b):CI Try.prog 72 [N7 a,N7 b] (.tup [N7 (DV a b),.d (.bool (Ft a b))]):=by
 have hO:Ft a b=(Jm a b&&(Cc a).2.2&&(Ci a b).2.2&&(Dx a b).2.2):=rfl;have hG:DV a b=if Ft a b=true then (a.1+(a.2.1.length:Int),[],(Dx a b).2.1,[(Dx a b).1]) else (0,[],[],[]):=rfl;have kc:=Pa a b ha hb;generalize DV a b=G at *;generalize Ft a b=O at *;refine E1 (by kernel_rfl) Try.func72 rfl rfl rfl ?_;simp[AL]
 cases hcb:Jm a b with
 | false =>
   rw[hcb] at kc hO;simp only[Bool.false_and] at hO;rw[hO,if_neg (by simp)] at hG;subst hO hG;refine Ab (kc) ?_;simp[AL]
 | true =>
 rw[hcb] at kc hO;simp only[Bool.true_and] at hO;obtain⟨hoa,hob,h1,h2,h3,h4,hfb,hrl⟩:=Oz hcb;obtain⟨⟨n1,n2,n3,n4,n5,n6⟩,-,-,-⟩:=Ax hoa;obtain⟨⟨m1,m2,m3,m4,m5,m6⟩,-,-,-⟩:=Ax hob;obtain⟨hFa,hga,hNa,-⟩:=Bz hoa;obtain⟨hFb,hgb,hNb,-⟩:=Bz hob;have hNea:=Bn a;have hNeb:=Bn b;obtain⟨I,hI⟩:∃ I,a.1+(a.2.1.length:Int)=I:=⟨_,rfl⟩;have w1:IntKind.i64.wrap (a.1+(a.2.1.length:Int))=I:=by rw[←hI];exact Af (by omega) (by omega)
 rw[hI] at hG;have hI20:0≤I∧I≤20:=by omega
 have hfaI:1+I=(Aa a:Int):=by omega
 have hfbI:1+I=(Aa b:Int):=by omega
 refine Ab (kc) ?_;simp[AL,w1];refine As [false,false,false,false,true,false,true,true,false,false,false,false,false,false,false,false,false,false,false,false,false,false,false,false,false,false,false,false,false,false,false,true,true,true] (fun i:Nat=>i≤2∧(0<i→(Cc a).2.2=true)∧(1<i→(Ci a b).2.2=true)) (fun i:Nat=>[(7,Ok i),(33,.d (.int .i64 i))]) (fun i:Nat=>Zx a b I i) (fun i:Nat=>2 - i) 0 ?_ ?_ ?_
 · exact⟨by omega,by omega,by omega⟩
 · exact⟨[0,1,2,3,4],by simp[Zx,Ok]⟩
 rintro J S μ hJ hS hμ i ⟨hi,hi1,hi2⟩;have p1:=fun i hi=>G6 (x:=a) hoa (an0:=[]) (by simp) rfl (i:=i) hi;have p2:=fun i hi=>G6 (x:=b) hob (an0:=(Cc a).2.1) (p1 a.2.2.1.length (Nat.le_refl _)).1.an (by rw[hfb];exact (p1 a.2.2.1.length (Nat.le_refl _)).1.ok) (i:=i) hi;rcases (show i=0∨i=1∨i=2 by omega) with rfl|rfl|rfl
 · simp[Zx,Ok,show (0:Int)<2 by omega,AL];refine Ab (DX a ha hoa) ?_;simp[AL];obtain⟨imS,himS⟩:∃ f:Nat→List Int×List Ah×Bool,f=Cx a []:=⟨_,rfl⟩;refine As [false,false,false,false,true,false,true,true,false,true,true,false,false,false,false,false,false,false,false,false,false,false,false,false,false,false,false,false,false,false,false,true,true,true,false,false,false,false,false,false,true,true,true] (fun j:Nat=>j≤a.2.2.1.length∧(Cx a [] j).2.2=true) (fun j:Nat=>[(42,.d (.int .i64 j))]) (fun j:Nat=>Zv I 6 7 (Cd (Cx a [] j).1 (AR a)) (Cx a [] j).2.1) (fun j:Nat=>a.2.2.1.length - j) 0 ?_ ?_ ?_
   · exact⟨Nat.zero_le _,rfl⟩
   · exact⟨[0,1,2,3,4,5,6],by simp[Cx,C4,GC]⟩
   rintro J2 S2 μ2 hJ2 hS2 hμ2 j ⟨hj,hjo⟩;obtain⟨q1,q2⟩:=p1 j hj;obtain⟨⟨to,an,bb⟩,hst⟩:∃ s,Cx a [] j=s:=⟨_,rfl⟩;rw[hst] at hjo q1 q2;simp only at hjo q2;obtain rfl:bb=true:=hjo;have hl:=q1.len rfl;have hpl:=q1.pl;have ha3:=q1.an;simp only at hl hpl ha3;rw[hst];by_cases hlt:j<a.2.2.1.length
   case neg =>
    obtain rfl:j=a.2.2.1.length:=by omega
    have hfull:Cc a=(to,an,true):=hst;have hpall:Cd (to,an,true).1 (AR a)=to:=Hi (by simp only;omega);rw[hpall];have hroots:=F8 a ha n3
    have hrlen:(At a).length≤1048576:=by
     have h1:=HS (x:=a) (k:=a.2.1.length) (M:=4) (fun s hs=>F5 ((Ax hoa).2.1 s hs));rw[HN] at h1;omega
    have hmap:=Eu to (At a) (by omega) hrlen (fun l hl=>by have:=S6 hoa hl;unfold XV at this;omega);have hrM:(At a).map (Ap to)=BH a (Cc a).1:=by rw[hfull];rfl
    rw[hrM] at hmap;by_cases hne:an=[]
    · subst hne;rw[GC];simp[zz3 hlt,hlt];refine Ab (hroots) ?_;simp[AL];refine Ab (hmap) ?_;simp
      first | refine BT (q:=1) AK (by exact rfl) (by simp) (by exact rfl) (by exact rfl) (by simp) (by simp) (by first | (simp;done)|(simp;omega)) ?_|refine BU AK (by exact rfl) (by simp) (by exact rfl) (by simp) (by first | (simp;done)|(simp;omega)) ?_
      simp[show IntKind.i64.wrap 1=1 from rfl,show IntKind.i64.wrap 2=2 from rfl];exact Ae hJ hS hμ 1 ⟨by omega,fun _=>by rw[hfull],fun h=>by omega⟩ (by omega) ⟨[0,1,2,3,4,10],by simp[Zx,Ok,jW,jX,hfull,LQ,Aq,e1]⟩
    · rw[D8 hne];simp[zz3 hlt,hlt];refine Ab (hroots) ?_;simp[AL];refine Ab (hmap) ?_;simp
      first | refine BT (q:=1) AK (by exact rfl) (by simp) (by exact rfl) (by exact rfl) (by simp) (by simp) (by first | (simp;done)|(simp;omega)) ?_|refine BU AK (by exact rfl) (by simp) (by exact rfl) (by simp) (by first | (simp;done)|(simp;omega)) ?_
      simp[show IntKind.i64.wrap 1=1 from rfl,show IntKind.i64.wrap 2=2 from rfl];exact Ae hJ hS hμ 1 ⟨by omega,fun _=>by rw[hfull],fun h=>by omega⟩ (by omega) ⟨[0,1,2,3,4,11,7],by simp[Zx,Ok,jW,jX,hfull,Ir hne,Aq,e1]⟩
   obtain⟨hA,a1,a2,a3,a4,a5,a6⟩:=Cy hoa (v:=Aa a+j) (by omega) (by omega);rw[Nat.add_sub_cancel_left] at hA;have hstp:=IA hst;generalize Al a (Aa a+j)=A at *;have hL:(Ao A).length=2:=rfl;have r1:=Bf (l:=A.1) (Bw hpl (by omega) (A.1 / 2)) (by omega);have r2:=Bf (l:=A.2) (Bw hpl (by omega) (A.2 / 2)) (by omega);have hplen:=Gx (p:=to) (n:=AR a) (by omega);have kA:=CD (Cd to (AR a)) A.1 (by omega) (by omega);have kB:=CD (Cd to (AR a)) A.2 (by omega) (by omega);rw[Hp (by omega)] at kA kB;have hset:=fun v:Int=>Fr (p:=to) (n:=AR a) (v:=v) (by omega);have hat:(Cd to (AR a))[to.length]? = some (Av (Cd to (AR a)) to.length):=CJ (k:=to.length) (by omega);have w5:IntKind.i64.wrap (1+a.1+(a.2.1.length:Int)+(j:Int))=(to.length:Int):=by rw[Af (by omega) (by omega)];omega
   have w6:IntKind.i64.wrap ((j:Int)+1)=(j:Int)+1:=Af (by omega) (by omega);generalize Ap to A.1=x1 at *;generalize Ap to A.2=x2 at *;have hneg:=II (fa:=Aa a) (an:=an) (a:=x1) (b:=x2) (by omega) (by omega) (by omega);generalize Av (Cd to (AR a)) to.length=pv at *;by_cases hne:an=[]
   · subst hne;rw[GC]
     cases hm:AV [] x1 x2
     · have c:=C8 I (Aa a) x1 x2 hI20 hfaI (by omega) (by omega) hm;rw[DL hm] at hstp;generalize hvv:AG (Aa a) [] x1 x2=v at *;simp[zz2 hlt,hA,hL,Ao];refine AJ 8 (by kernel_rfl) ?_;simp;refine Ab (kA) ?_;simp;refine Ab (kB) ?_;simp;refine Ac (c) [] [3] (by simp) ?_;simp;by_cases hv:v<0
       · rw[if_pos hv] at hstp;have hff:=Dc (show (Cx a [] (j+1)).2.2=false by rw[hstp]) (a.2.2.1.length - (j+1));rw[show j+1+(a.2.2.1.length - (j+1))=a.2.2.1.length by omega] at hff;have hff2:(Cc a).2.2=false:=hff;rw[hff2] at hO;simp only[Bool.false_and,Bool.and_false] at hO;rw[hO,if_neg (by simp)] at hG;subst hO hG;simp[hv,zz2 hv,show ¬ 0≤v by omega,AL]
       rw[if_neg hv] at hstp;simp[hv,zz3 hv,show 0≤v by omega];refine Ab (AW a ⟨n1,n2⟩ n3) ?_;simp[w5,w6,hset,hat,AL];exact Ae hJ2 hS2 hμ2 (j+1) ⟨by omega,by rw[hstp]⟩ (by omega) ⟨[0,1,2,3,4,5,6],by simp[hstp,GC]⟩
     · have c:=Dw I (Aa a) x1 x2 hI20 hfaI (by omega) (by omega) hm;generalize hvv:AG (Aa a) [] x1 x2=v at *;simp[zz2 hlt,hA,hL,Ao];refine AJ 8 (by kernel_rfl) ?_;simp;refine Ab (kA) ?_;simp;refine Ab (kB) ?_;simp;refine Ac (c) [] [3] (by simp) ?_;simp;by_cases hv:v<0
       · rw[if_pos hv] at hstp;have hff:=Dc (show (Cx a [] (j+1)).2.2=false by rw[hstp]) (a.2.2.1.length - (j+1));rw[show j+1+(a.2.2.1.length - (j+1))=a.2.2.1.length by omega] at hff;have hff2:(Cc a).2.2=false:=hff;rw[hff2] at hO;simp only[Bool.false_and,Bool.and_false] at hO;rw[hO,if_neg (by simp)] at hG;subst hO hG;simp[hv,zz2 hv,show ¬ 0≤v by omega,AL]
       rw[if_neg hv] at hstp;simp[hv,zz3 hv,show 0≤v by omega];refine Ab (AW a ⟨n1,n2⟩ n3) ?_;simp[w5,w6,hset,hat,AL];exact Ae hJ2 hS2 hμ2 (j+1) ⟨by omega,by rw[hstp]⟩ (by omega) ⟨[0,1,2,3,4,5,6,8],by simp[hstp,D8 (EU hm)]⟩
   · rw[D8 hne]
     cases hm:AV an x1 x2
     · have c:=BN I (Aa a) an x1 x2 hI20 hfaI ha3 (by omega) (by omega) hm;rw[DL hm] at hstp;generalize hvv:AG (Aa a) an x1 x2=v at *;simp[zz2 hlt,hA,hL,Ao];refine AJ 8 (by kernel_rfl) ?_;simp;refine Ab (kA) ?_;simp;refine Ab (kB) ?_;simp;refine Ac (c) [] [3,7] (by simp) ?_;simp;by_cases hv:v<0
       · rw[if_pos hv] at hstp;have hff:=Dc (show (Cx a [] (j+1)).2.2=false by rw[hstp]) (a.2.2.1.length - (j+1));rw[show j+1+(a.2.2.1.length - (j+1))=a.2.2.1.length by omega] at hff;have hff2:(Cc a).2.2=false:=hff;rw[hff2] at hO;simp only[Bool.false_and,Bool.and_false] at hO;rw[hO,if_neg (by simp)] at hG;subst hO hG;simp[hv,zz2 hv,show ¬ 0≤v by omega,AL]
       rw[if_neg hv] at hstp;simp[hv,zz3 hv,show 0≤v by omega];refine Ab (AW a ⟨n1,n2⟩ n3) ?_;simp[w5,w6,hset,hat,AL];exact Ae hJ2 hS2 hμ2 (j+1) ⟨by omega,by rw[hstp]⟩ (by omega) ⟨[0,1,2,3,4,5,6,7],by simp[hstp,D8 hne]⟩
     · have c:=B1 I (Aa a) an x1 x2 hI20 hfaI ha3 (by omega) (by omega) hm;generalize hvv:AG (Aa a) an x1 x2=v at *;simp[zz2 hlt,hA,hL,Ao];refine AJ 8 (by kernel_rfl) ?_;simp;refine Ab (kA) ?_;simp;refine Ab (kB) ?_;simp;refine Ac (c) [] [3,7] (by simp) ?_;simp;by_cases hv:v<0
       · rw[if_pos hv] at hstp;have hff:=Dc (show (Cx a [] (j+1)).2.2=false by rw[hstp]) (a.2.2.1.length - (j+1));rw[show j+1+(a.2.2.1.length - (j+1))=a.2.2.1.length by omega] at hff;have hff2:(Cc a).2.2=false:=hff;rw[hff2] at hO;simp only[Bool.false_and,Bool.and_false] at hO;rw[hO,if_neg (by simp)] at hG;subst hO hG;simp[hv,zz2 hv,show ¬ 0≤v by omega,AL]
       rw[if_neg hv] at hstp;simp[hv,zz3 hv,show 0≤v by omega];refine Ab (AW a ⟨n1,n2⟩ n3) ?_;simp[w5,w6,hset,hat,AL];exact Ae hJ2 hS2 hμ2 (j+1) ⟨by omega,by rw[hstp]⟩ (by omega) ⟨[0,1,2,3,4,5,6,9],by simp[hstp,D8 (EU hm)]⟩
 · have hf1:=hi1 (by omega);by_cases hane:(Cc a).2.1=[]
   · have hsl:∀ sl,Zx a b I 1 sl=Xv I [BH a (Cc a).1] [] sl:=fun sl=>by simp[Zx,jW,jX,hane]
     rw[hsl,LQ];simp[Ok,show (1:Int)<2 by omega,AL];refine Ab (DX b hb hob) ?_;simp[AL];obtain⟨imS,himS⟩:∃ f:Nat→List Int×List Ah×Bool,f=Cx b (Cc a).2.1:=⟨_,rfl⟩;refine As [false,false,false,false,true,false,true,true,false,true,true,false,false,false,false,false,false,false,false,false,false,false,false,false,false,false,false,false,false,false,false,true,true,true,false,false,false,false,false,false,true,true,true] (fun j:Nat=>j≤b.2.2.1.length∧(Cx b (Cc a).2.1 j).2.2=true) (fun j:Nat=>[(42,.d (.int .i64 j))]) (fun j:Nat=>Zv I 7 8 (Cd (Cx b (Cc a).2.1 j).1 (AR b)) (Cx b (Cc a).2.1 j).2.1) (fun j:Nat=>b.2.2.1.length - j) 0 ?_ ?_ ?_
     · exact⟨Nat.zero_le _,rfl⟩
     · exact⟨[0,1,2,3,4,5,6,7],by simp[Cx,C4,hane,GC]⟩
     rintro J2 S2 μ2 hJ2 hS2 hμ2 j ⟨hj,hjo⟩;obtain⟨q1,q2⟩:=p2 j hj;obtain⟨⟨to,an,bb⟩,hst⟩:∃ s,Cx b (Cc a).2.1 j=s:=⟨_,rfl⟩;rw[hst] at hjo q1 q2;simp only at hjo q2;obtain rfl:bb=true:=hjo;have hl:=q1.len rfl;have hpl:=q1.pl;have ha3:=q1.an;simp only at hl hpl ha3;rw[hst];by_cases hlt:j<b.2.2.1.length
     case neg =>
      obtain rfl:j=b.2.2.1.length:=by omega
      have hfull:Ci a b=(to,an,true):=hst;have hpall:Cd (to,an,true).1 (AR b)=to:=Hi (by simp only;omega);rw[hpall];have hroots:=F8 b hb m3
      have hrlen:(At b).length≤1048576:=by
       have h1:=HS (x:=b) (k:=b.2.1.length) (M:=4) (fun s hs=>F5 ((Ax hob).2.1 s hs));rw[HN] at h1;omega
      have hmap:=Eu to (At b) (by omega) hrlen (fun l hl=>by have:=S6 hob hl;unfold XV at this;omega);have hrM:(At b).map (Ap to)=BH b (Ci a b).1:=by rw[hfull];rfl
      rw[hrM] at hmap;by_cases hne:an=[]
      · subst hne;rw[GC];simp[zz3 hlt,hlt];refine Ab (hroots) ?_;simp[AL];refine Ab (hmap) ?_;simp
        first | refine BT (q:=1) AK (by exact rfl) (by simp) (by exact rfl) (by exact rfl) (by simp) (by simp) (by first | (simp;done)|(simp;omega)) ?_|refine BU AK (by exact rfl) (by simp) (by exact rfl) (by simp) (by first | (simp;done)|(simp;omega)) ?_
        simp[show IntKind.i64.wrap 1=1 from rfl,show IntKind.i64.wrap 2=2 from rfl];exact Ae hJ hS hμ 2 ⟨by omega,fun _=>hi1 (by omega),fun h=>by rw[hfull]⟩ (by omega) ⟨[0,1,2,3,4,11],by simp[Zx,Ok,jW,jX,hfull,LQ,Aq,e1]⟩
      · rw[D8 hne];simp[zz3 hlt,hlt];refine Ab (hroots) ?_;simp[AL];refine Ab (hmap) ?_;simp
        first | refine BT (q:=1) AK (by exact rfl) (by simp) (by exact rfl) (by exact rfl) (by simp) (by simp) (by first | (simp;done)|(simp;omega)) ?_|refine BU AK (by exact rfl) (by simp) (by exact rfl) (by simp) (by first | (simp;done)|(simp;omega)) ?_
        simp[show IntKind.i64.wrap 1=1 from rfl,show IntKind.i64.wrap 2=2 from rfl];exact Ae hJ hS hμ 2 ⟨by omega,fun _=>hi1 (by omega),fun h=>by rw[hfull]⟩ (by omega) ⟨[0,1,2,3,4,12,8],by simp[Zx,Ok,jW,jX,hfull,Ir hne,Aq,e1]⟩
     obtain⟨hA,a1,a2,a3,a4,a5,a6⟩:=Cy hob (v:=Aa b+j) (by omega) (by omega);rw[Nat.add_sub_cancel_left] at hA;have hstp:=IA hst;generalize Al b (Aa b+j)=A at *;have hL:(Ao A).length=2:=rfl;have r1:=Bf (l:=A.1) (Bw hpl (by omega) (A.1 / 2)) (by omega);have r2:=Bf (l:=A.2) (Bw hpl (by omega) (A.2 / 2)) (by omega);have hplen:=Gx (p:=to) (n:=AR b) (by omega);have kA:=CD (Cd to (AR b)) A.1 (by omega) (by omega);have kB:=CD (Cd to (AR b)) A.2 (by omega) (by omega);rw[Hp (by omega)] at kA kB;have hset:=fun v:Int=>Fr (p:=to) (n:=AR b) (v:=v) (by omega);have hat:(Cd to (AR b))[to.length]? = some (Av (Cd to (AR b)) to.length):=CJ (k:=to.length) (by omega);have w5:IntKind.i64.wrap (1+b.1+(b.2.1.length:Int)+(j:Int))=(to.length:Int):=by rw[Af (by omega) (by omega)];omega
     have w6:IntKind.i64.wrap ((j:Int)+1)=(j:Int)+1:=Af (by omega) (by omega);generalize Ap to A.1=x1 at *;generalize Ap to A.2=x2 at *;have hneg:=II (fa:=Aa b) (an:=an) (a:=x1) (b:=x2) (by omega) (by omega) (by omega);generalize Av (Cd to (AR b)) to.length=pv at *;by_cases hne:an=[]
     · subst hne;rw[GC]
       cases hm:AV [] x1 x2
       · have c:=C8 I (Aa b) x1 x2 hI20 hfbI (by omega) (by omega) hm;rw[DL hm] at hstp;generalize hvv:AG (Aa b) [] x1 x2=v at *;simp[zz2 hlt,hA,hL,Ao];refine AJ 8 (by kernel_rfl) ?_;simp;refine Ab (kA) ?_;simp;refine Ab (kB) ?_;simp;refine Ac (c) [] [3] (by simp) ?_;simp;by_cases hv:v<0
         · rw[if_pos hv] at hstp;have hff:=Dc (show (Cx b (Cc a).2.1 (j+1)).2.2=false by rw[hstp]) (b.2.2.1.length - (j+1));rw[show j+1+(b.2.2.1.length - (j+1))=b.2.2.1.length by omega] at hff;have hff2:(Ci a b).2.2=false:=hff;rw[hff2] at hO;simp only[Bool.false_and,Bool.and_false] at hO;rw[hO,if_neg (by simp)] at hG;subst hO hG;simp[hv,zz2 hv,show ¬ 0≤v by omega,AL]
         rw[if_neg hv] at hstp;simp[hv,zz3 hv,show 0≤v by omega];refine Ab (AW b ⟨m1,m2⟩ m3) ?_;simp[w5,w6,hset,hat,AL];exact Ae hJ2 hS2 hμ2 (j+1) ⟨by omega,by rw[hstp]⟩ (by omega) ⟨[0,1,2,3,4,5,6,7],by simp[hstp,GC]⟩
       · have c:=Dw I (Aa b) x1 x2 hI20 hfbI (by omega) (by omega) hm;generalize hvv:AG (Aa b) [] x1 x2=v at *;simp[zz2 hlt,hA,hL,Ao];refine AJ 8 (by kernel_rfl) ?_;simp;refine Ab (kA) ?_;simp;refine Ab (kB) ?_;simp;refine Ac (c) [] [3] (by simp) ?_;simp;by_cases hv:v<0
         · rw[if_pos hv] at hstp;have hff:=Dc (show (Cx b (Cc a).2.1 (j+1)).2.2=false by rw[hstp]) (b.2.2.1.length - (j+1));rw[show j+1+(b.2.2.1.length - (j+1))=b.2.2.1.length by omega] at hff;have hff2:(Ci a b).2.2=false:=hff;rw[hff2] at hO;simp only[Bool.false_and,Bool.and_false] at hO;rw[hO,if_neg (by simp)] at hG;subst hO hG;simp[hv,zz2 hv,show ¬ 0≤v by omega,AL]
         rw[if_neg hv] at hstp;simp[hv,zz3 hv,show 0≤v by omega];refine Ab (AW b ⟨m1,m2⟩ m3) ?_;simp[w5,w6,hset,hat,AL];exact Ae hJ2 hS2 hμ2 (j+1) ⟨by omega,by rw[hstp]⟩ (by omega) ⟨[0,1,2,3,4,5,6,7,9],by simp[hstp,D8 (EU hm)]⟩
     · rw[D8 hne]
       cases hm:AV an x1 x2
       · have c:=BN I (Aa b) an x1 x2 hI20 hfbI ha3 (by omega) (by omega) hm;rw[DL hm] at hstp;generalize hvv:AG (Aa b) an x1 x2=v at *;simp[zz2 hlt,hA,hL,Ao];refine AJ 8 (by kernel_rfl) ?_;simp;refine Ab (kA) ?_;simp;refine Ab (kB) ?_;simp;refine Ac (c) [] [3,8] (by simp) ?_;simp;by_cases hv:v<0
         · rw[if_pos hv] at hstp;have hff:=Dc (show (Cx b (Cc a).2.1 (j+1)).2.2=false by rw[hstp]) (b.2.2.1.length - (j+1));rw[show j+1+(b.2.2.1.length - (j+1))=b.2.2.1.length by omega] at hff;have hff2:(Ci a b).2.2=false:=hff;rw[hff2] at hO;simp only[Bool.false_and,Bool.and_false] at hO;rw[hO,if_neg (by simp)] at hG;subst hO hG;simp[hv,zz2 hv,show ¬ 0≤v by omega,AL]
         rw[if_neg hv] at hstp;simp[hv,zz3 hv,show 0≤v by omega];refine Ab (AW b ⟨m1,m2⟩ m3) ?_;simp[w5,w6,hset,hat,AL];exact Ae hJ2 hS2 hμ2 (j+1) ⟨by omega,by rw[hstp]⟩ (by omega) ⟨[0,1,2,3,4,5,6,7,8],by simp[hstp,D8 hne]⟩
       · have c:=B1 I (Aa b) an x1 x2 hI20 hfbI ha3 (by omega) (by omega) hm;generalize hvv:AG (Aa b) an x1 x2=v at *;simp[zz2 hlt,hA,hL,Ao];refine AJ 8 (by kernel_rfl) ?_;simp;refine Ab (kA) ?_;simp;refine Ab (kB) ?_;simp;refine Ac (c) [] [3,8] (by simp) ?_;simp;by_cases hv:v<0
         · rw[if_pos hv] at hstp;have hff:=Dc (show (Cx b (Cc a).2.1 (j+1)).2.2=false by rw[hstp]) (b.2.2.1.length - (j+1));rw[show j+1+(b.2.2.1.length - (j+1))=b.2.2.1.length by omega] at hff;have hff2:(Ci a b).2.2=false:=hff;rw[hff2] at hO;simp only[Bool.false_and,Bool.and_false] at hO;rw[hO,if_neg (by simp)] at hG;subst hO hG;simp[hv,zz2 hv,show ¬ 0≤v by omega,AL]
         rw[if_neg hv] at hstp;simp[hv,zz3 hv,show 0≤v by omega];refine Ab (AW b ⟨m1,m2⟩ m3) ?_;simp[w5,w6,hset,hat,AL];exact Ae hJ2 hS2 hμ2 (j+1) ⟨by omega,by rw[hstp]⟩ (by omega) ⟨[0,1,2,3,4,5,6,7,10],by simp[hstp,D8 (EU hm)]⟩
   · have hsl:∀ sl,Zx a b I 1 sl=sl.set 3 (X0 I 6)++[.arr 26 true ([BH a (Cc a).1].map Aq),.arr 60 true ((Cc a).2.1.map Ao)]:=fun sl=>by simp[Zx,jW,jX,Ir hane]
     rw[hsl];simp[Ok,show (1:Int)<2 by omega,AL];refine Ab (DX b hb hob) ?_;simp[AL];obtain⟨imS,himS⟩:∃ f:Nat→List Int×List Ah×Bool,f=Cx b (Cc a).2.1:=⟨_,rfl⟩;refine AY [false,false,false,false,true,false,true,true,false,true,true,false,false,false,false,false,false,false,false,false,false,false,false,false,false,false,false,false,false,false,false,true,true,true,false,false,false,false,false,false,true,true,true] (fun j:Nat=>j≤b.2.2.1.length∧(Cx b (Cc a).2.1 j).2.2=true∧(Cx b (Cc a).2.1 j).2.1≠[]) (fun j:Nat=>[(42,.d (.int .i64 j))]) (fun j:Nat=>[(8,.arr 3 true ((Cd (Cx b (Cc a).2.1 j).1 (AR b)).map (e1 Az))),(6,.arr 60 true ((Cx b (Cc a).2.1 j).2.1.map Ao))]) (fun j:Nat=>b.2.2.1.length - j) 0 ?_ ?_ ?_
     · exact⟨Nat.zero_le _,rfl,hane⟩
     · exact⟨[0,1,2,3,4,5,6,7,8],by simp[Cx,C4]⟩
     rintro J2 S2 μ2 hJ2 hS2 hμ2 j ⟨hj,hjo,hne0⟩;obtain⟨q1,q2⟩:=p2 j hj;obtain⟨⟨to,an,bb⟩,hst⟩:∃ s,Cx b (Cc a).2.1 j=s:=⟨_,rfl⟩;rw[hst] at hjo q1 q2 hne0;simp only at hjo q2 hne0;obtain rfl:bb=true:=hjo;have hl:=q1.len rfl;have hpl:=q1.pl;have ha3:=q1.an;simp only at hl hpl ha3;rw[hst];by_cases hlt:j<b.2.2.1.length
     case neg =>
      obtain rfl:j=b.2.2.1.length:=by omega
      have hfull:Ci a b=(to,an,true):=hst;have hpall:Cd (to,an,true).1 (AR b)=to:=Hi (by simp only;omega);rw[hpall];have hroots:=F8 b hb m3
      have hrlen:(At b).length≤1048576:=by
       have h1:=HS (x:=b) (k:=b.2.1.length) (M:=4) (fun s hs=>F5 ((Ax hob).2.1 s hs));rw[HN] at h1;omega
      have hmap:=Eu to (At b) (by omega) hrlen (fun l hl=>by have:=S6 hob hl;unfold XV at this;omega);have hrM:(At b).map (Ap to)=BH b (Ci a b).1:=by rw[hfull];rfl
      rw[hrM] at hmap;have hne:an≠[]:=hne0;simp[zz3 hlt,hlt];refine Ab (hroots) ?_;simp[AL];refine Ab (hmap) ?_;simp
      first | refine BT (q:=1) AK (by exact rfl) (by simp) (by exact rfl) (by exact rfl) (by simp) (by simp) (by first | (simp;done)|(simp;omega)) ?_|refine BU AK (by exact rfl) (by simp) (by exact rfl) (by simp) (by first | (simp;done)|(simp;omega)) ?_
      simp[show IntKind.i64.wrap 1=1 from rfl,show IntKind.i64.wrap 2=2 from rfl];exact Ae hJ hS hμ 2 ⟨by omega,fun _=>hi1 (by omega),fun h=>by rw[hfull]⟩ (by omega) ⟨[0,1,2,3,4,12,6],by simp[Zx,Ok,jW,jX,hfull,Ir hne,Aq,e1]⟩
     obtain⟨hA,a1,a2,a3,a4,a5,a6⟩:=Cy hob (v:=Aa b+j) (by omega) (by omega);rw[Nat.add_sub_cancel_left] at hA;have hstp:=IA hst;generalize Al b (Aa b+j)=A at *;have hL:(Ao A).length=2:=rfl;have r1:=Bf (l:=A.1) (Bw hpl (by omega) (A.1 / 2)) (by omega);have r2:=Bf (l:=A.2) (Bw hpl (by omega) (A.2 / 2)) (by omega);have hplen:=Gx (p:=to) (n:=AR b) (by omega);have kA:=CD (Cd to (AR b)) A.1 (by omega) (by omega);have kB:=CD (Cd to (AR b)) A.2 (by omega) (by omega);rw[Hp (by omega)] at kA kB;have hset:=fun v:Int=>Fr (p:=to) (n:=AR b) (v:=v) (by omega);have hat:(Cd to (AR b))[to.length]? = some (Av (Cd to (AR b)) to.length):=CJ (k:=to.length) (by omega);have w5:IntKind.i64.wrap (1+b.1+(b.2.1.length:Int)+(j:Int))=(to.length:Int):=by rw[Af (by omega) (by omega)];omega
     have w6:IntKind.i64.wrap ((j:Int)+1)=(j:Int)+1:=Af (by omega) (by omega);generalize Ap to A.1=x1 at *;generalize Ap to A.2=x2 at *;have hneg:=II (fa:=Aa b) (an:=an) (a:=x1) (b:=x2) (by omega) (by omega) (by omega);generalize Av (Cd to (AR b)) to.length=pv at *
     cases hm:AV an x1 x2
     · have c:=BN I (Aa b) an x1 x2 hI20 hfbI ha3 (by omega) (by omega) hm;rw[DL hm] at hstp;generalize hvv:AG (Aa b) an x1 x2=v at *;simp[zz2 hlt,hA,hL,Ao];refine AJ 8 (by kernel_rfl) ?_;simp;refine Ab (kA) ?_;simp;refine Ab (kB) ?_;simp;refine Ac (c) [] [3,6] (by simp) ?_;simp;by_cases hv:v<0
       · rw[if_pos hv] at hstp;have hff:=Dc (show (Cx b (Cc a).2.1 (j+1)).2.2=false by rw[hstp]) (b.2.2.1.length - (j+1));rw[show j+1+(b.2.2.1.length - (j+1))=b.2.2.1.length by omega] at hff;have hff2:(Ci a b).2.2=false:=hff;rw[hff2] at hO;simp only[Bool.false_and,Bool.and_false] at hO;rw[hO,if_neg (by simp)] at hG;subst hO hG;simp[hv,zz2 hv,show ¬ 0≤v by omega,AL]
       rw[if_neg hv] at hstp;simp[hv,zz3 hv,show 0≤v by omega];refine Ab (AW b ⟨m1,m2⟩ m3) ?_;simp[w5,w6,hset,hat,AL];exact Ae hJ2 hS2 hμ2 (j+1) ⟨by omega,by rw[hstp],by rw[hstp];exact hne0⟩ (by omega) ⟨[0,1,2,3,4,5,6,7,8],by simp[hstp]⟩
     · have c:=B1 I (Aa b) an x1 x2 hI20 hfbI ha3 (by omega) (by omega) hm;generalize hvv:AG (Aa b) an x1 x2=v at *;simp[zz2 hlt,hA,hL,Ao];refine AJ 8 (by kernel_rfl) ?_;simp;refine Ab (kA) ?_;simp;refine Ab (kB) ?_;simp;refine Ac (c) [] [3,6] (by simp) ?_;simp;by_cases hv:v<0
       · rw[if_pos hv] at hstp;have hff:=Dc (show (Cx b (Cc a).2.1 (j+1)).2.2=false by rw[hstp]) (b.2.2.1.length - (j+1));rw[show j+1+(b.2.2.1.length - (j+1))=b.2.2.1.length by omega] at hff;have hff2:(Ci a b).2.2=false:=hff;rw[hff2] at hO;simp only[Bool.false_and,Bool.and_false] at hO;rw[hO,if_neg (by simp)] at hG;subst hO hG;simp[hv,zz2 hv,show ¬ 0≤v by omega,AL]
       rw[if_neg hv] at hstp;simp[hv,zz3 hv,show 0≤v by omega];refine Ab (AW b ⟨m1,m2⟩ m3) ?_;simp[w5,w6,hset,hat,AL];exact Ae hJ2 hS2 hμ2 (j+1) ⟨by omega,by rw[hstp],by rw[hstp];exact lP hne0⟩ (by omega) ⟨[0,1,2,3,4,5,10,7,8],by simp[hstp]⟩
 · have hf1:=hi1 (by omega);have hf2:=hi2 (by omega);rw[hf1,hf2] at hO;simp only[Bool.true_and] at hO;obtain⟨q1,-⟩:=p2 b.2.2.1.length (Nat.le_refl _);obtain⟨t1,-⟩:=p1 a.2.2.1.length (Nat.le_refl _);have hplB:=q1.pl;have hplA:=t1.pl;have hanB:=q1.an;have hle12:(Cc a).2.1.length≤(Ci a b).2.1.length:=(p2 b.2.2.1.length (Nat.le_refl _)).2;have hMr:Dx a b=A1 (Aa a) (BH a (Cc a).1) (BH b (Ci a b).1) (Ci a b).2.1 (At a).length:=rfl;have hra:(BH a (Cc a).1).length=(At a).length:=by simp[BH]
   have hrb:(BH b (Ci a b).1).length=(At a).length:=by simp[BH,hrl]
   have hrA:∀ k:Int,k∈BH a (Cc a).1→0≤k∧k<2*((Aa a:Int)+(Ci a b).2.1.length):=fun k hk=>by
    obtain⟨l,-,rfl⟩:=ACP.1 hk;have e2:(Cx a [] a.2.2.1.length).2.1.length=(Cc a).2.1.length:=rfl;have hq:Oh ((Aa a:Int)+(Ci a b).2.1.length) (Cc a).1:=Hb hplA (by omega);have hb3:(Ci a b).2.1.length≤300:=hanB;exact Bf (Bw hq (by omega) _) (by omega)
   have hrB:∀ k:Int,k∈BH b (Ci a b).1→0≤k∧k<2*((Aa a:Int)+(Ci a b).2.1.length):=fun k hk=>by
    obtain⟨l,-,rfl⟩:=ACP.1 hk;have hb3:(Ci a b).2.1.length≤300:=hanB;rw[hfb] at hplB
    exact Bf (Bw hplB (by have:(0:Int)≤(Ci a b).2.1.length:=by omega
                          omega) _) (by omega)
   have hb3:(Ci a b).2.1.length≤300:=hanB;have hlsM:jW a b 2=[BH a (Cc a).1,BH b (Ci a b).1]:=rfl;have hanM:jX a b 2=(Ci a b).2.1:=rfl;have hslM:∀ sl,Zx a b I 2 sl=Xv I (jW a b 2) (jX a b 2) sl:=fun sl=>rfl;rw[hslM,hlsM,hanM];clear hplA hplB q1 t1 p1 p2 hS hJ hμ hanB;have hnr0:=HS (x:=a) (k:=a.2.1.length) (M:=4) (fun s hs=>F5 ((Ax hoa).2.1 s hs));rw[HN] at hnr0;generalize BH a (Cc a).1=ra at *;generalize BH b (Ci a b).1=rb at *;generalize (Ci a b).2.1=an0 at *;generalize Dx a b=MR at *;have hrl16:=hra;generalize (At a).length=nr at *;have hnr:nr≤64:=by omega
   by_cases han0:an0=[]
   · subst han0;rw[LQ];simp[Ok,show ¬ (2:Int)<2 by omega,Aq,e1];refine As [false,false,false,false,true,false,true,true,false,false,false,false,false,false,true,false,false,false,false,false,false,false,false,false,false,false,false,false,false,false,false,false,false,false,false,false,false,false,false,false,false,false,false,false,false,false,false,false,false,false,false,false,false,false,false,false,false,false,false,false,false,false,false,false,false,false,false,false,false,false,false,false,false,false,false,false,false,false,true,true] (fun i:Nat=>i≤nr∧(A1 (Aa a) ra rb [] i).2.2=true) (fun i:Nat=>[(14,.d (.int .i64 (A1 (Aa a) ra rb [] i).1)),(79,.d (.int .i64 i))]) (fun i:Nat=>wT I (A1 (Aa a) ra rb [] i).2.1) (fun i:Nat=>nr - i) 0 ?_ ?_ ?_
     · exact⟨Nat.zero_le _,rfl⟩
     · exact⟨[0,1,2,3,4,5],by simp[A1,Ol,hra]⟩
     rintro J2 S2 μ2 hJ2 hS2 hμ2 i ⟨hi,hio⟩;obtain⟨⟨sv,an,bb⟩,hst⟩:∃ s,A1 (Aa a) ra rb [] i=s:=⟨_,rfl⟩;have hgf:=Fp (fa:=Aa a) (ra:=ra) (rb:=rb) (an0:=[]) (by omega) (by simp) hrA hrB (by omega) (by omega) i hi;rw[hst] at hio hgf;simp only at hio;subst hio;rw[hst];obtain⟨g1,g2,g3⟩:=hgf rfl;simp only at g1 g2 g3;by_cases hlt:i<nr
     case neg =>
      obtain rfl:i=nr:=by omega
      rw[hst] at hMr;subst hMr;simp only at hO;rw[hO,if_pos rfl] at hG;subst hO hG;by_cases hne:an=[]
      · subst hne;rw[Ol];simp[zz3 hlt,hlt,hra,AL]
      · rw[FE hne];simp[zz3 hlt,hlt,hra,AL]
     have hx1:ra[i]? = some (ra.getD i 0):=by rw[List.getD_eq_getElem?_getD,zz0 (by omega)];rfl
     have hx2:rb[i]? = some (rb.getD i 0):=by rw[List.getD_eq_getElem?_getD,zz0 (by omega)];rfl
     have b1:=hrA _ (zz6 hx1);have b2:=hrB _ (zz6 hx2);have hstp:=E7 hst;generalize ra.getD i 0=xa at *;generalize rb.getD i 0=xb at *;have w6:IntKind.i64.wrap ((i:Int)+1)=(i:Int)+1:=Af (by omega) (by omega);have hLr:∀ x:BB,(Aq x).length=1:=fun _=>rfl;by_cases hne:an=[]
     · subst hne;rw[Ol];have xr:=Ii (fa:=Aa a) (an:=[]) (a:=xa) (b:=xb) (by omega) g3 (by omega) (by omega);have cxsame:=QO I (Aa a) xa xb hI20 hfaI g3 (by omega) (by omega);have cxnew:=Tt I (Aa a) xa xb hI20 hfaI g3 (by omega) (by omega);obtain⟨⟨xv,an1⟩,hX⟩:∃ q,Ce (Aa a) [] xa xb=q:=⟨_,rfl⟩;rw[hX] at xr cxsame cxnew hstp;obtain⟨x1,x2,x3,x4⟩:=xr;simp only at x1 x2 x3 x4 hstp;by_cases hm:an1=[]
       · have c:=cxsame hm;subst hm;simp[zz2 hlt,hlt,hra,hLr,Aq];refine AJ 12 (by kernel_rfl) ?_;simp[hx1,hx2,hLr,Aq];refine Ac (c) [] [3] (by simp) ?_;simp;by_cases hv:xv<0
         · rw[if_pos hv] at hstp;have hff:=Bo (show (A1 (Aa a) ra rb [] (i+1)).2.2=false by rw[hstp]) (nr - (i+1));rw[show i+1+(nr - (i+1))=nr by omega,←hMr] at hff;rw[hff] at hO;rw[hO,if_neg (by simp)] at hG;subst hO hG;simp[hv,zz2 hv,show ¬ 0≤xv by omega,AL]
         rw[if_neg hv] at hstp;have xo:=GZ (fa:=Aa a) (an:=[]) (a:=sv) (b:=xv) (by omega) (by omega) (by omega);have cosame:=I0 I (Aa a) sv xv hI20 hfaI x4 (by omega) (by omega);have conew:=JR I (Aa a) sv xv hI20 hfaI x4 (by omega) (by omega);have hsame:AV [] (Ad sv) (Ad xv)=false→[]=Ak [] (Ad sv) (Ad xv):=fun h=>(DL h).symm;generalize E4 (Aa a) [] sv xv=ov at *;have hnewN:AV [] (Ad sv) (Ad xv)=true→Ak [] (Ad sv) (Ad xv)≠[]:=EU;generalize Ak [] (Ad sv) (Ad xv)=an2 at *;generalize AV [] (Ad sv) (Ad xv)=mo at *;simp[hv,zz3 hv,show 0≤xv by omega]
         cases mo
         · have c2:=cosame rfl;obtain rfl:=hsame rfl;refine Ac (c2) [] [3] (by simp) ?_;simp;by_cases hv2:ov<0
           · rw[if_pos hv2] at hstp;have hff:=Bo (show (A1 (Aa a) ra rb [] (i+1)).2.2=false by rw[hstp]) (nr - (i+1));rw[show i+1+(nr - (i+1))=nr by omega,←hMr] at hff;rw[hff] at hO;rw[hO,if_neg (by simp)] at hG;subst hO hG;simp[hv2,zz2 hv2,show ¬ 0≤ov by omega,AL]
           rw[if_neg hv2] at hstp;simp[hv2,zz3 hv2,show 0≤ov by omega,w6];exact Ae hJ2 hS2 hμ2 (i+1) ⟨by omega,by rw[hstp]⟩ (by omega) ⟨[0,1,2,3,4,5],by simp[hstp,hra,Ol]⟩
         · have c2:=conew rfl;have hn2:=hnewN rfl;refine Ac (c2) [] [3] (by simp) ?_;simp;by_cases hv2:ov<0
           · rw[if_pos hv2] at hstp;have hff:=Bo (show (A1 (Aa a) ra rb [] (i+1)).2.2=false by rw[hstp]) (nr - (i+1));rw[show i+1+(nr - (i+1))=nr by omega,←hMr] at hff;rw[hff] at hO;rw[hO,if_neg (by simp)] at hG;subst hO hG;simp[hv2,zz2 hv2,show ¬ 0≤ov by omega,AL]
           rw[if_neg hv2] at hstp;simp[hv2,zz3 hv2,show 0≤ov by omega,w6];exact Ae hJ2 hS2 hμ2 (i+1) ⟨by omega,by rw[hstp]⟩ (by omega) ⟨[0,1,2,3,4,5,6],by simp[hstp,hra,FE hn2]⟩
       · have c:=cxnew hm;simp[zz2 hlt,hlt,hra,hLr,Aq];refine AJ 12 (by kernel_rfl) ?_;simp[hx1,hx2,hLr,Aq];refine Ac (c) [] [3] (by simp) ?_;simp;by_cases hv:xv<0
         · rw[if_pos hv] at hstp;have hff:=Bo (show (A1 (Aa a) ra rb [] (i+1)).2.2=false by rw[hstp]) (nr - (i+1));rw[show i+1+(nr - (i+1))=nr by omega,←hMr] at hff;rw[hff] at hO;rw[hO,if_neg (by simp)] at hG;subst hO hG;simp[hv,zz2 hv,show ¬ 0≤xv by omega,AL]
         rw[if_neg hv] at hstp;have xo:=GZ (fa:=Aa a) (an:=an1) (a:=sv) (b:=xv) (by omega) (by omega) (by omega);have cosame:=Bm I (Aa a) an1 sv xv hI20 hfaI x4 (by omega) (by omega);have conew:=Bx I (Aa a) an1 sv xv hI20 hfaI x4 (by omega) (by omega);have hsame:AV an1 (Ad sv) (Ad xv)=false→an1=Ak an1 (Ad sv) (Ad xv):=fun h=>(DL h).symm;generalize E4 (Aa a) an1 sv xv=ov at *;have hnewN:AV an1 (Ad sv) (Ad xv)=true→Ak an1 (Ad sv) (Ad xv)≠[]:=EU;generalize Ak an1 (Ad sv) (Ad xv)=an2 at *;generalize AV an1 (Ad sv) (Ad xv)=mo at *;simp[hv,zz3 hv,show 0≤xv by omega]
         cases mo
         · have c2:=cosame rfl;obtain rfl:=hsame rfl;refine Ac (c2) [] [3,6] (by simp) ?_;simp;by_cases hv2:ov<0
           · rw[if_pos hv2] at hstp;have hff:=Bo (show (A1 (Aa a) ra rb [] (i+1)).2.2=false by rw[hstp]) (nr - (i+1));rw[show i+1+(nr - (i+1))=nr by omega,←hMr] at hff;rw[hff] at hO;rw[hO,if_neg (by simp)] at hG;subst hO hG;simp[hv2,zz2 hv2,show ¬ 0≤ov by omega,AL]
           rw[if_neg hv2] at hstp;simp[hv2,zz3 hv2,show 0≤ov by omega,w6];have hn2:an1≠[]:=hm;exact Ae hJ2 hS2 hμ2 (i+1) ⟨by omega,by rw[hstp]⟩ (by omega) ⟨[0,1,2,3,4,5,6],by simp[hstp,hra,FE hn2]⟩
         · have c2:=conew rfl;have hn2:=hnewN rfl;refine Ac (c2) [] [3,6] (by simp) ?_;simp;by_cases hv2:ov<0
           · rw[if_pos hv2] at hstp;have hff:=Bo (show (A1 (Aa a) ra rb [] (i+1)).2.2=false by rw[hstp]) (nr - (i+1));rw[show i+1+(nr - (i+1))=nr by omega,←hMr] at hff;rw[hff] at hO;rw[hO,if_neg (by simp)] at hG;subst hO hG;simp[hv2,zz2 hv2,show ¬ 0≤ov by omega,AL]
           rw[if_neg hv2] at hstp;simp[hv2,zz3 hv2,show 0≤ov by omega,w6];exact Ae hJ2 hS2 hμ2 (i+1) ⟨by omega,by rw[hstp]⟩ (by omega) ⟨[0,1,2,3,4,5,7],by simp[hstp,hra,FE hn2]⟩
     · rw[FE hne];have xr:=Ii (fa:=Aa a) (an:=an) (a:=xa) (b:=xb) (by omega) g3 (by omega) (by omega);have cxsame:=KS I (Aa a) an xa xb hI20 hfaI g3 (by omega) (by omega);have cxnew:=Lu I (Aa a) an xa xb hI20 hfaI g3 (by omega) (by omega);obtain⟨⟨xv,an1⟩,hX⟩:∃ q,Ce (Aa a) an xa xb=q:=⟨_,rfl⟩;rw[hX] at xr cxsame cxnew hstp;obtain⟨x1,x2,x3,x4⟩:=xr;simp only at x1 x2 x3 x4 hstp;by_cases hm:an1=an
       · have c:=cxsame hm;obtain rfl:an=an1:=hm.symm;simp[zz2 hlt,hlt,hra,hLr,Aq];refine AJ 12 (by kernel_rfl) ?_;simp[hx1,hx2,hLr,Aq];refine Ac (c) [] [3,6] (by simp) ?_;simp;by_cases hv:xv<0
         · rw[if_pos hv] at hstp;have hff:=Bo (show (A1 (Aa a) ra rb [] (i+1)).2.2=false by rw[hstp]) (nr - (i+1));rw[show i+1+(nr - (i+1))=nr by omega,←hMr] at hff;rw[hff] at hO;rw[hO,if_neg (by simp)] at hG;subst hO hG;simp[hv,zz2 hv,show ¬ 0≤xv by omega,AL]
         rw[if_neg hv] at hstp;have xo:=GZ (fa:=Aa a) (an:=an) (a:=sv) (b:=xv) (by omega) (by omega) (by omega);have cosame:=Bm I (Aa a) an sv xv hI20 hfaI x4 (by omega) (by omega);have conew:=Bx I (Aa a) an sv xv hI20 hfaI x4 (by omega) (by omega);have hsame:AV an (Ad sv) (Ad xv)=false→an=Ak an (Ad sv) (Ad xv):=fun h=>(DL h).symm;generalize E4 (Aa a) an sv xv=ov at *;have hnewN:AV an (Ad sv) (Ad xv)=true→Ak an (Ad sv) (Ad xv)≠[]:=EU;generalize Ak an (Ad sv) (Ad xv)=an2 at *;generalize AV an (Ad sv) (Ad xv)=mo at *;simp[hv,zz3 hv,show 0≤xv by omega]
         cases mo
         · have c2:=cosame rfl;obtain rfl:=hsame rfl;refine Ac (c2) [] [3,6] (by simp) ?_;simp;by_cases hv2:ov<0
           · rw[if_pos hv2] at hstp;have hff:=Bo (show (A1 (Aa a) ra rb [] (i+1)).2.2=false by rw[hstp]) (nr - (i+1));rw[show i+1+(nr - (i+1))=nr by omega,←hMr] at hff;rw[hff] at hO;rw[hO,if_neg (by simp)] at hG;subst hO hG;simp[hv2,zz2 hv2,show ¬ 0≤ov by omega,AL]
           rw[if_neg hv2] at hstp;simp[hv2,zz3 hv2,show 0≤ov by omega,w6];exact Ae hJ2 hS2 hμ2 (i+1) ⟨by omega,by rw[hstp]⟩ (by omega) ⟨[0,1,2,3,4,5,6],by simp[hstp,hra,FE hne]⟩
         · have c2:=conew rfl;have hn2:=hnewN rfl;refine Ac (c2) [] [3,6] (by simp) ?_;simp;by_cases hv2:ov<0
           · rw[if_pos hv2] at hstp;have hff:=Bo (show (A1 (Aa a) ra rb [] (i+1)).2.2=false by rw[hstp]) (nr - (i+1));rw[show i+1+(nr - (i+1))=nr by omega,←hMr] at hff;rw[hff] at hO;rw[hO,if_neg (by simp)] at hG;subst hO hG;simp[hv2,zz2 hv2,show ¬ 0≤ov by omega,AL]
           rw[if_neg hv2] at hstp;simp[hv2,zz3 hv2,show 0≤ov by omega,w6];exact Ae hJ2 hS2 hμ2 (i+1) ⟨by omega,by rw[hstp]⟩ (by omega) ⟨[0,1,2,3,4,5,7],by simp[hstp,hra,FE hn2]⟩
       · have c:=cxnew hm;simp[zz2 hlt,hlt,hra,hLr,Aq];refine AJ 12 (by kernel_rfl) ?_;simp[hx1,hx2,hLr,Aq];refine Ac (c) [] [3,6] (by simp) ?_;simp;by_cases hv:xv<0
         · rw[if_pos hv] at hstp;have hff:=Bo (show (A1 (Aa a) ra rb [] (i+1)).2.2=false by rw[hstp]) (nr - (i+1));rw[show i+1+(nr - (i+1))=nr by omega,←hMr] at hff;rw[hff] at hO;rw[hO,if_neg (by simp)] at hG;subst hO hG;simp[hv,zz2 hv,show ¬ 0≤xv by omega,AL]
         rw[if_neg hv] at hstp;have xo:=GZ (fa:=Aa a) (an:=an1) (a:=sv) (b:=xv) (by omega) (by omega) (by omega);have cosame:=Bm I (Aa a) an1 sv xv hI20 hfaI x4 (by omega) (by omega);have conew:=Bx I (Aa a) an1 sv xv hI20 hfaI x4 (by omega) (by omega);have hsame:AV an1 (Ad sv) (Ad xv)=false→an1=Ak an1 (Ad sv) (Ad xv):=fun h=>(DL h).symm;generalize E4 (Aa a) an1 sv xv=ov at *;have hnewN:AV an1 (Ad sv) (Ad xv)=true→Ak an1 (Ad sv) (Ad xv)≠[]:=EU;generalize Ak an1 (Ad sv) (Ad xv)=an2 at *;generalize AV an1 (Ad sv) (Ad xv)=mo at *;simp[hv,zz3 hv,show 0≤xv by omega]
         cases mo
         · have c2:=cosame rfl;obtain rfl:=hsame rfl;refine Ac (c2) [] [3,7] (by simp) ?_;simp;by_cases hv2:ov<0
           · rw[if_pos hv2] at hstp;have hff:=Bo (show (A1 (Aa a) ra rb [] (i+1)).2.2=false by rw[hstp]) (nr - (i+1));rw[show i+1+(nr - (i+1))=nr by omega,←hMr] at hff;rw[hff] at hO;rw[hO,if_neg (by simp)] at hG;subst hO hG;simp[hv2,zz2 hv2,show ¬ 0≤ov by omega,AL]
           rw[if_neg hv2] at hstp;simp[hv2,zz3 hv2,show 0≤ov by omega,w6];have hn2:an1≠[]:=QS (by have:=List.length_pos_iff.2 hne;omega);exact Ae hJ2 hS2 hμ2 (i+1) ⟨by omega,by rw[hstp]⟩ (by omega) ⟨[0,1,2,3,4,5,7],by simp[hstp,hra,FE hn2]⟩
         · have c2:=conew rfl;have hn2:=hnewN rfl;refine Ac (c2) [] [3,7] (by simp) ?_;simp;by_cases hv2:ov<0
           · rw[if_pos hv2] at hstp;have hff:=Bo (show (A1 (Aa a) ra rb [] (i+1)).2.2=false by rw[hstp]) (nr - (i+1));rw[show i+1+(nr - (i+1))=nr by omega,←hMr] at hff;rw[hff] at hO;rw[hO,if_neg (by simp)] at hG;subst hO hG;simp[hv2,zz2 hv2,show ¬ 0≤ov by omega,AL]
           rw[if_neg hv2] at hstp;simp[hv2,zz3 hv2,show 0≤ov by omega,w6];exact Ae hJ2 hS2 hμ2 (i+1) ⟨by omega,by rw[hstp]⟩ (by omega) ⟨[0,1,2,3,4,5,8],by simp[hstp,hra,FE hn2]⟩
   · rw[Ir han0];simp[Ok,show ¬ (2:Int)<2 by omega,Aq,e1];refine AY [false,false,false,false,true,false,true,true,false,false,false,false,false,false,true,false,false,false,false,false,false,false,false,false,false,false,false,false,false,false,false,false,false,false,false,false,false,false,false,false,false,false,false,false,false,false,false,false,false,false,false,false,false,false,false,false,false,false,false,false,false,false,false,false,false,false,false,false,false,false,false,false,false,false,false,false,false,false,true,true] (fun i:Nat=>i≤nr∧(A1 (Aa a) ra rb an0 i).2.2=true) (fun i:Nat=>[(14,.d (.int .i64 (A1 (Aa a) ra rb an0 i).1)),(79,.d (.int .i64 i))]) (fun i:Nat=>[(6,.arr 60 true ((A1 (Aa a) ra rb an0 i).2.1.map Ao))]) (fun i:Nat=>nr - i) 0 ?_ ?_ ?_
     · exact⟨Nat.zero_le _,rfl⟩
     · exact⟨[0,1,2,3,4,5,6],by simp[A1,hra]⟩
     rintro J2 S2 μ2 hJ2 hS2 hμ2 i ⟨hi,hio⟩;obtain⟨⟨sv,an,bb⟩,hst⟩:∃ s,A1 (Aa a) ra rb an0 i=s:=⟨_,rfl⟩;have hgf:=Fp (fa:=Aa a) (ra:=ra) (rb:=rb) (an0:=an0) (by omega) hb3 hrA hrB (by omega) (by omega) i hi;rw[hst] at hio hgf;simp only at hio;subst hio;rw[hst];obtain⟨g1,g2,g3⟩:=hgf rfl;simp only at g1 g2 g3;by_cases hlt:i<nr
     case neg =>
      obtain rfl:i=nr:=by omega
      rw[hst] at hMr;subst hMr;simp only at hO;rw[hO,if_pos rfl] at hG;subst hO hG;simp[zz3 hlt,hlt,hra,AL]
     have hx1:ra[i]? = some (ra.getD i 0):=by rw[List.getD_eq_getElem?_getD,zz0 (by omega)];rfl
     have hx2:rb[i]? = some (rb.getD i 0):=by rw[List.getD_eq_getElem?_getD,zz0 (by omega)];rfl
     have b1:=hrA _ (zz6 hx1);have b2:=hrB _ (zz6 hx2);have hstp:=E7 hst;generalize ra.getD i 0=xa at *;generalize rb.getD i 0=xb at *;have w6:IntKind.i64.wrap ((i:Int)+1)=(i:Int)+1:=Af (by omega) (by omega);have hLr:∀ x:BB,(Aq x).length=1:=fun _=>rfl;have xr:=Ii (fa:=Aa a) (an:=an) (a:=xa) (b:=xb) (by omega) g3 (by omega) (by omega);have cxsame:=KS I (Aa a) an xa xb hI20 hfaI g3 (by omega) (by omega);have cxnew:=Lu I (Aa a) an xa xb hI20 hfaI g3 (by omega) (by omega);obtain⟨⟨xv,an1⟩,hX⟩:∃ q,Ce (Aa a) an xa xb=q:=⟨_,rfl⟩;rw[hX] at xr cxsame cxnew hstp;obtain⟨x1,x2,x3,x4⟩:=xr;simp only at x1 x2 x3 x4 hstp;by_cases hm:an1=an
     · have c:=cxsame hm;obtain rfl:an=an1:=hm.symm;simp[zz2 hlt,hlt,hra,hLr,Aq];refine AJ 12 (by kernel_rfl) ?_;simp[hx1,hx2,hLr,Aq];refine Ac (c) [] [3,6] (by simp) ?_;simp;by_cases hv:xv<0
       · rw[if_pos hv] at hstp;have hff:=Bo (show (A1 (Aa a) ra rb an0 (i+1)).2.2=false by rw[hstp]) (nr - (i+1));rw[show i+1+(nr - (i+1))=nr by omega,←hMr] at hff;rw[hff] at hO;rw[hO,if_neg (by simp)] at hG;subst hO hG;simp[hv,zz2 hv,show ¬ 0≤xv by omega,AL]
       rw[if_neg hv] at hstp;have xo:=GZ (fa:=Aa a) (an:=an) (a:=sv) (b:=xv) (by omega) (by omega) (by omega);have cosame:=Bm I (Aa a) an sv xv hI20 hfaI x4 (by omega) (by omega);have conew:=Bx I (Aa a) an sv xv hI20 hfaI x4 (by omega) (by omega);have hsame:AV an (Ad sv) (Ad xv)=false→an=Ak an (Ad sv) (Ad xv):=fun h=>(DL h).symm;generalize E4 (Aa a) an sv xv=ov at *;have hnewN:AV an (Ad sv) (Ad xv)=true→Ak an (Ad sv) (Ad xv)≠[]:=EU;generalize Ak an (Ad sv) (Ad xv)=an2 at *;generalize AV an (Ad sv) (Ad xv)=mo at *;simp[hv,zz3 hv,show 0≤xv by omega]
       cases mo
       · have c2:=cosame rfl;obtain rfl:=hsame rfl;refine Ac (c2) [] [3,6] (by simp) ?_;simp;by_cases hv2:ov<0
         · rw[if_pos hv2] at hstp;have hff:=Bo (show (A1 (Aa a) ra rb an0 (i+1)).2.2=false by rw[hstp]) (nr - (i+1));rw[show i+1+(nr - (i+1))=nr by omega,←hMr] at hff;rw[hff] at hO;rw[hO,if_neg (by simp)] at hG;subst hO hG;simp[hv2,zz2 hv2,show ¬ 0≤ov by omega,AL]
         rw[if_neg hv2] at hstp;simp[hv2,zz3 hv2,show 0≤ov by omega,w6];exact Ae hJ2 hS2 hμ2 (i+1) ⟨by omega,by rw[hstp]⟩ (by omega) ⟨[0,1,2,3,4,5,6],by simp[hstp,hra]⟩
       · have c2:=conew rfl;have hn2:=hnewN rfl;refine Ac (c2) [] [3,6] (by simp) ?_;simp;by_cases hv2:ov<0
         · rw[if_pos hv2] at hstp;have hff:=Bo (show (A1 (Aa a) ra rb an0 (i+1)).2.2=false by rw[hstp]) (nr - (i+1));rw[show i+1+(nr - (i+1))=nr by omega,←hMr] at hff;rw[hff] at hO;rw[hO,if_neg (by simp)] at hG;subst hO hG;simp[hv2,zz2 hv2,show ¬ 0≤ov by omega,AL]
         rw[if_neg hv2] at hstp;simp[hv2,zz3 hv2,show 0≤ov by omega,w6];exact Ae hJ2 hS2 hμ2 (i+1) ⟨by omega,by rw[hstp]⟩ (by omega) ⟨[0,1,2,3,4,5,7],by simp[hstp,hra]⟩
     · have c:=cxnew hm;simp[zz2 hlt,hlt,hra,hLr,Aq];refine AJ 12 (by kernel_rfl) ?_;simp[hx1,hx2,hLr,Aq];refine Ac (c) [] [3,6] (by simp) ?_;simp;by_cases hv:xv<0
       · rw[if_pos hv] at hstp;have hff:=Bo (show (A1 (Aa a) ra rb an0 (i+1)).2.2=false by rw[hstp]) (nr - (i+1));rw[show i+1+(nr - (i+1))=nr by omega,←hMr] at hff;rw[hff] at hO;rw[hO,if_neg (by simp)] at hG;subst hO hG;simp[hv,zz2 hv,show ¬ 0≤xv by omega,AL]
       rw[if_neg hv] at hstp;have xo:=GZ (fa:=Aa a) (an:=an1) (a:=sv) (b:=xv) (by omega) (by omega) (by omega);have cosame:=Bm I (Aa a) an1 sv xv hI20 hfaI x4 (by omega) (by omega);have conew:=Bx I (Aa a) an1 sv xv hI20 hfaI x4 (by omega) (by omega);have hsame:AV an1 (Ad sv) (Ad xv)=false→an1=Ak an1 (Ad sv) (Ad xv):=fun h=>(DL h).symm;generalize E4 (Aa a) an1 sv xv=ov at *;have hnewN:AV an1 (Ad sv) (Ad xv)=true→Ak an1 (Ad sv) (Ad xv)≠[]:=EU;generalize Ak an1 (Ad sv) (Ad xv)=an2 at *;generalize AV an1 (Ad sv) (Ad xv)=mo at *;simp[hv,zz3 hv,show 0≤xv by omega]
       cases mo
       · have c2:=cosame rfl;obtain rfl:=hsame rfl;refine Ac (c2) [] [3,7] (by simp) ?_;simp;by_cases hv2:ov<0
         · rw[if_pos hv2] at hstp;have hff:=Bo (show (A1 (Aa a) ra rb an0 (i+1)).2.2=false by rw[hstp]) (nr - (i+1));rw[show i+1+(nr - (i+1))=nr by omega,←hMr] at hff;rw[hff] at hO;rw[hO,if_neg (by simp)] at hG;subst hO hG;simp[hv2,zz2 hv2,show ¬ 0≤ov by omega,AL]
         rw[if_neg hv2] at hstp;simp[hv2,zz3 hv2,show 0≤ov by omega,w6];exact Ae hJ2 hS2 hμ2 (i+1) ⟨by omega,by rw[hstp]⟩ (by omega) ⟨[0,1,2,3,4,5,7],by simp[hstp,hra]⟩
       · have c2:=conew rfl;have hn2:=hnewN rfl;refine Ac (c2) [] [3,7] (by simp) ?_;simp;by_cases hv2:ov<0
         · rw[if_pos hv2] at hstp;have hff:=Bo (show (A1 (Aa a) ra rb an0 (i+1)).2.2=false by rw[hstp]) (nr - (i+1));rw[show i+1+(nr - (i+1))=nr by omega,←hMr] at hff;rw[hff] at hO;rw[hO,if_neg (by simp)] at hG;subst hO hG;simp[hv2,zz2 hv2,show ¬ 0≤ov by omega,AL]
         rw[if_neg hv2] at hstp;simp[hv2,zz3 hv2,show 0≤ov by omega,w6];exact Ae hJ2 hS2 hμ2 (i+1) ⟨by omega,by rw[hstp]⟩ (by omega) ⟨[0,1,2,3,4,5,8],by simp[hstp,hra]⟩
end Go.Proofs.Ytnjedabjbeipeaa
