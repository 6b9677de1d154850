/-
  Solve on both sides.
  Conditions: those typed in each theorem.
-/
import Derived.Test.YtnjedabjbeipeaaGreatQg
import Derived.Test.YtnjedabjbeipeaaGreatPa
import Derived.Test.YtnjedabjbeipeaaGreatRf
namespace Go.Proofs.YtnjedabjbeipeaaGreat
open Go.RowKit Go.ChangeShapes Go.WideShapes
set_option linter.unusedSimpArgs false
set_option linter.unusedVariables false
set_option maxRecDepth 100000
set_option maxHeartbeats 10000000
theorem lK {P:Program} {f:FuncId} {xs ys:List V} {t t':TypeId} {sl sl':List Ah} {r:V} (h:CM P f (xs++.d (.sl t [])::ys) sl r sl'):CM P f (xs++.nil t'::ys) sl r sl':=by
 refine⟨h.1,h.2.1,fun w φ Fs R hR vs hm hl hv=>h.2.2 w φ Fs R hR vs hm (by simpa using hl) fun i x v hx hv'=>?_⟩;by_cases hi:i=xs.length
 · subst hi;simp at hx;subst hx;have:=hv xs.length (.nil t') v (by simp) hv'
   cases this
   exact .d (.nil _ _ _)
 · refine hv i x v ?_ hv';rw[←hx];rcases Nat.lt_or_ge i xs.length with h'|h'
   · rw[DZ h',DZ h']
   · obtain⟨j,rfl⟩:∃ j,i=xs.length+(j+1):=⟨i - xs.length - 1,by omega⟩;simp[ET]
def Ii (q:List Int):List Bool:=q.map fun x=>x==1
def Dn (v:Int) (cls:List BW) (B:Int):Int×List Bool×List BW :=
 if Gk v cls=true∧DX B 1 600=true then
  (fun r:Ig=>if r.code=1 then (1,Ii r.model,[]) else if r.code=2 then (2,[],r.pf) else (3,[],[])) (CN cls B.toNat B.toNat (List.replicate v.toNat 0) [] [])
 else (0,[],[])
abbrev AAo (r:Int×List Bool×List BW):X:=.tup [.d (.int .i64 r.1),.d (Dr 4 (e1 CZ) r.2.1),VU r.2.2]
def Wo (k s:Nat):V:=if k=0 then .nil 4 else .ref s
def N9 (k:Nat) (xs:List Bool) (sl:List Ah):List Ah:=if k=0 then sl else sl++[.arr 4 true (xs.map (e1 CZ))]
theorem S6 {q:List Int} {k:Nat} {x:Int} (hx:q[k]? = some x):Ii (q.take (k+1))=Ii (q.take k)++[x==1]:=by
 unfold Ii;rw[Bb hx,Gh];rfl
theorem IW (q:List Int):(Ii q).length=q.length:=by simp[Ii]
theorem Y2 (x:WO) (B:Int) (hx:U1 1048576 x):BA Tryz.prog 23 [cC x,.d (.int .i64 B)] (AAo (Dn x.1 x.2 B)):=by
 obtain⟨v,cls⟩:=x;have hB:Dn v cls B=Dn v cls B:=rfl
 conv at hB=>lhs;unfold Dn
 simp only;generalize Dn v cls B=R at *;refine B7 (by kernel_rfl) Tryz.func23 rfl rfl rfl ?_;simp[EE];refine Ab (Yu (v,cls) hx) ?_;simp
 cases hok:Gk v cls with
 | false =>
   rw[hok] at hB;simp only[Bool.false_eq_true,false_and,if_false] at hB;subst hB;simp[hok]
 | true =>
 simp[hok];refine Ab (Fl _ _ _) ?_;simp;rcases Ep (DX B 1 600) with hr|hr
 case inr =>
  rw[hok,hr] at hB;simp only[Bool.false_eq_true,and_false,if_false] at hB;subst hB;simp[hr]
 rw[hok,hr] at hB;simp only[and_self,if_true] at hB;have hr2:=AP.1 hr;have hv4:=Hm hok;obtain⟨n,rfl⟩:∃ n:Nat,v=n:=⟨v.toNat,by omega⟩;obtain⟨b,rfl⟩:∃ b:Nat,B=b:=⟨B.toNat,by omega⟩;have hci:CG n cls:=GV hok;have hcc:=VQ n cls b (by omega) (by omega) hx hci b b (List.replicate n 0) [] (List.replicate n 0) [] (Nat.le_refl _) (Int.le_refl _) (by simp) (HK n) (.inl ⟨rfl,rfl⟩) (by simp) (by simp;omega) (by simp;omega) (by simp);have hsf:=FM hci b b (List.replicate n 0) [] [] (by simp) (HK n);simp only[Int.toNat_natCast] at hB;generalize CN cls b b (List.replicate n 0) [] []=r at *;obtain⟨f1,f2,f3,f4⟩:=hsf;simp[hr,show (0:Int)≤n by omega,show (n:Int)≤1099511627776 by omega];have hcn:=lK (xs:=[.ptr 0 0]) (t':=0) hcc;simp only[List.cons_append,List.nil_append,Ci,if_true] at hcn;by_cases h1:r.code=1
 · have hR2:R=(1,Ii r.model,[]):=by rw[←hB,if_pos h1]
   subst hR2;simp only[AO,BM,h1,if_true,if_false,show ((1:Int)=2)=False by simp] at hcn;refine Ac (hcn) [2] [1] (by simp) ?_;simp;have hml:=(f4 h1).1;refine AJ [false,false,false,false,false,false,false,false,true,true,false,false,false,false,false,false,false,false,false,false,false,false,false,false,false,false,false,false,false,false,false,false,false,false,false,true,true,true] (fun k:Nat=>k≤r.model.length) (fun k:Nat=>[(9,Wo k 3),(37,.d (.int .i64 k))]) (fun k:Nat=>N9 k (Ii (r.model.take k))) (fun k:Nat=>r.model.length - k) 0 ?_ ?_ ?_
   · simp
   · exact⟨[0,1,2],by simp[Wo,N9]⟩
   rintro I Z μ hI hZ hμ k hk;by_cases hlt:k<r.model.length
   · have hx1:r.model[k]? = some r.model[k]:=A1 hlt;have w2:IntKind.i64.wrap ((k:Int)+1)=(k:Int)+1:=Ad (by omega) (by omega);have hd:decide (k<r.model.length)=true:=A8 hlt;have hn:=S6 hx1;have hl:(Ii (r.model.take k)).length=k:=by rw[IW,Gf];omega
     generalize r.model[k]=y at *;generalize Ii (r.model.take k)=ms at *;by_cases hk0:k=0
     · subst hk0;have hm:ms=[]:=Gx hl;subst hm;simp[Wo,N9,hd,hx1];refine Ak Mt rfl (by simp) rfl (by simp) (by simp) (by first | (simp;done)|(simp;omega)) (by simp[AR,AL]) ?_;simp[w2,show IntKind.i64.wrap 1=1 from rfl];exact Ae hI hZ hμ 1 (by omega) (by omega) ⟨[0,1,2,4],by simp[Wo,N9,hn,e1,CZ]⟩
     · simp[Wo,N9,hd,hx1,hk0];refine Ak Mt rfl (by simp) rfl (by simp) (by simp) (by first | (simp;done)|(simp;omega)) (by simp[AR,AL]) ?_;simp[w2];exact Ae hI hZ hμ (k+1) (by omega) (by omega) ⟨[0,1,2,5],by simp[Wo,N9,hn,e1,CZ]⟩
   · have hk':k=r.model.length:=by omega
     subst hk';rw[List.take_length];have hl:=IW r.model;generalize Ii r.model=ms at *;by_cases hk0:r.model.length=0
     · have hm:ms=[]:=Gx (by omega);subst hm;simp[Wo,N9,hk0,hlt]
     · simp[Wo,N9,hlt,BH hlt,hk0]
 · by_cases h2:r.code=2
   · have hR2:R=(2,[],r.pf):=by rw[←hB,if_neg h1,if_pos h2]
     subst hR2;simp only[AO,El,h2,if_true] at hcn;refine Ac (hcn) [2] [1] (by simp) ?_;simp;refine AH 8 (by kernel_rfl) ?_;simp
   · have h3:r.code=3:=by omega
     have hR2:R=(3,[],[]):=by rw[←hB,if_neg h1,if_neg h2]
     subst hR2;simp only[AO,BM,h1,h2,if_true,if_false] at hcn;rw[h3] at hcn;refine Ac (hcn) [2] [1] (by simp) ?_;simp
theorem XX (x:WO) (B:Int) (hx:U1 1048576 x):BA Tryz.prog 18 [cC x,.d (.int .i64 B)] (AAo (Dn x.1 x.2 B)):=by
 obtain⟨v,cls⟩:=x;have hB:Dn v cls B=Dn v cls B:=rfl
 conv at hB=>lhs;unfold Dn
 simp only;generalize Dn v cls B=R at *;refine B7 (by kernel_rfl) Tryz.func18 rfl rfl rfl ?_;simp[EE];refine Ab (YT (v,cls) hx) ?_;simp
 cases hok:Gk v cls with
 | false =>
   rw[hok] at hB;simp only[Bool.false_eq_true,false_and,if_false] at hB;subst hB;simp[hok]
 | true =>
 simp[hok];refine Ab (EX _ _ _) ?_;simp;rcases Ep (DX B 1 600) with hr|hr
 case inr =>
  rw[hok,hr] at hB;simp only[Bool.false_eq_true,and_false,if_false] at hB;subst hB;simp[hr]
 rw[hok,hr] at hB;simp only[and_self,if_true] at hB;have hr2:=AP.1 hr;have hv4:=Hm hok;obtain⟨n,rfl⟩:∃ n:Nat,v=n:=⟨v.toNat,by omega⟩;obtain⟨b,rfl⟩:∃ b:Nat,B=b:=⟨B.toNat,by omega⟩;have hci:CG n cls:=GV hok;have hcc:=Wb n cls (by omega) hx hci b b (List.replicate n 0) [] [] (Nat.le_refl _) (by simp) (HK n) (by simp) (by simp;omega) (by simp;omega) (by simp);have hsf:=FM hci b b (List.replicate n 0) [] [] (by simp) (HK n);simp only[Int.toNat_natCast] at hB;generalize CN cls b b (List.replicate n 0) [] []=r at *;obtain⟨f1,f2,f3,f4⟩:=hsf;simp[hr,show (0:Int)≤n by omega,show (n:Int)≤1099511627776 by omega];simp only[KA,Ft,if_true] at hcc;by_cases h1:r.code=1
 · have hR2:R=(1,Ii r.model,[]):=by rw[←hB,if_pos h1]
   subst hR2;simp only[Ca,Er,h1,if_true,if_false,show ((1:Int)=2)=False by simp] at hcc;refine Ac (hcc) [3,4] [2] (by simp) ?_;simp;have hml:=(f4 h1).1;refine AB [false,false,false,false,false,false,false,true,true,true,true] (fun k:Nat=>k≤r.model.length) (fun k:Nat=>[(10,.d (.int .i64 k))]) (fun k:Nat=>[(1,.arr 4 true ((Ii (r.model.take k)).map (e1 CZ)))]) (fun k:Nat=>r.model.length - k) 0 ?_ ?_ ?_
   · exact Nat.zero_le _
   · exact⟨[0,1,2,3,4],by simp[Ii]⟩
   rintro I Z μ hI hZ hμ k hk;by_cases hlt:k<r.model.length
   · have hx1:r.model[k]? = some r.model[k]:=A1 hlt;have w2:IntKind.i64.wrap ((k:Int)+1)=(k:Int)+1:=Ad (by omega) (by omega);have hd:decide (k<r.model.length)=true:=A8 hlt;have hn:=S6 hx1;have hl:(Ii (r.model.take k)).length=k:=by rw[IW,Gf];omega
     generalize r.model[k]=y at *;generalize Ii (r.model.take k)=ms at *;simp[hd,hx1];refine Ak Mt rfl (by simp) rfl (by simp) (by simp) (by first | (simp;done)|(simp;omega)) (by simp[AR,AL]) ?_;simp[w2];exact Ae hI hZ hμ (k+1) (by omega) (by omega) ⟨[0,6,2,3,4],by simp[hn,e1,CZ]⟩
   · have hk':k=r.model.length:=by omega
     subst hk';rw[List.take_length];have hl:=IW r.model;generalize Ii r.model=ms at *;simp[hlt,BH hlt]
 · by_cases h2:r.code=2
   · have hR2:R=(2,[],r.pf):=by rw[←hB,if_neg h1,if_pos h2]
     subst hR2;simp only[Ca,Ki,h2,if_true] at hcc;refine Ac (hcc) [3,4] [2] (by simp) ?_;simp;refine AH 9 (by kernel_rfl) ?_;simp
   · have h3:r.code=3:=by omega
     have hR2:R=(3,[],[]):=by rw[←hB,if_neg h1,if_neg h2]
     subst hR2;simp only[Ca,Er,h1,h2,if_true,if_false] at hcc;rw[h3] at hcc;refine Ac (hcc) [3,4] [2] (by simp) ?_;simp
def JZ (c:Cd):Int:=1+Au c 4
def aN (c:Cd):Cd:=Ag (Ag (Ag c 4) 4) 15
def Mf (c:Cd):Nat:=(Au (Ag c 4) 4).toNat
def MN (c:Cd):Nat:=(Au (Ag (Ag c 4) 4) 15).toNat
def eI (c:Cd):Nat:=1+(JZ c).toNat+Mf c
def Mv (c:Cd):Int:=2*((eI c:Int)+MN c)
def OZ (c:Cd):Cd×List Ai:=Vh (eI c) (aN c) (MN c)
def IH (c:Cd):Cd×List Cx:=OJ (Mv c) (OZ c).1 (Mf c)
def PT (c:Cd):Cd×List Int:=ID (Mv c) (Ag (IH c).1 4) ((Au (IH c).1 4).toNat+1)
def Fw (c:Cd):AK:=(JZ c,(IH c).2,(OZ c).2,(PT c).2)
def Pz (c:Cd):Cd:=(PT c).1
theorem MK (c:Cd):(1≤JZ c∧JZ c≤4)∧Mf c≤3∧MN c≤14:=by
 have b1:=AV c (n:=4) (by omega);have b2:=AV (Ag c 4) (n:=4) (by omega);have b3:=AV (Ag (Ag c 4) 4) (n:=15) (by omega);unfold JZ Mf MN;omega
theorem XY {c:Cd} (h:c.ok):(Pz c).ok:=NX (Aw (NW (TS (Aw (Aw (Aw h))) _) _)) _
theorem Nm {c:Cd}:Al (Fw c)=true:=by
 obtain⟨h1,h2,h3⟩:=MK c;have hF:eI c=1+(JZ c).toNat+Mf c:=rfl;have ht:Mv c=2*((eI c:Int)+MN c):=rfl;have lS:(IH c).2.length=Mf c:=Jm _;have lA:(OZ c).2.length=MN c:=Lc _;have lO:(PT c).2.length=(Au (IH c).1 4).toNat+1:=Jj _;have b4:=AV (IH c).1 (n:=4) (by omega)
 have hN:A0 (Fw c)=eI c+MN c:=by
  show 1+(JZ c).toNat+(IH c).2.length+(OZ c).2.length=_;omega
 have hG:Aa (Fw c)=eI c:=by
  show 1+(JZ c).toNat+(IH c).2.length=_;omega
 have hS:=Vg (top:=Mv c) (c:=(OZ c).1) (by omega) (Mf c);have hO:=WK (top:=Mv c) (c:=Ag (IH c).1 4) (by omega) ((Au (IH c).1 4).toNat+1);refine MV (by show 0≤JZ c∧JZ c≤20;omega) (by show (IH c).2.length≤12;omega) (by show (OZ c).2.length≤300;omega) (by show (PT c).2.length≤16;omega) (fun s hs=>(hS s hs).1) (fun y hy=>?_) (fun s hs y hy=>?_) (Rc fun k a ha=>?_)
 · have:=hO y hy;rw[hN];omega
 · have:=(hS s hs).2 y hy;rw[hN];omega
 · rw[hG,Nat.zero_add];exact eV (F:=eI c) (c:=aN c) (by omega) (MN c) k a ha
def Pb (b:Bool):Int:=if b=true then 1 else 0
theorem P9 (b:Bool):BA Tryz.prog 19 [.d (.bool b)] (.d (.int .i64 (Pb b))):=by
 refine A6 (by kernel_rfl) Tryz.func19 rfl rfl rfl ?_
 cases b with
 | false =>
   simp[Pb]
 | true =>
   simp[Pb]
def nC (t:TypeId) (i k:Nat):V:=if i=0 then .nil t else .ref k
def nS (t:TypeId) (i:Nat) (es:List (List D)):List Ah:=if i=0 then [] else [.arr t true es]
abbrev zG:Ah:=.var 28 [.d (.int .i64 0),.nil 57,.nil 63,.nil 3]
def PZ (G:AK):List Ah:=if G.2.1.length=0 then [] else [.arr 57 true (G.2.1.map AY)]
def RO (G:AK):V:=if G.2.1.length=0 then .nil 57 else .ref 1
def Rz (G:AK):List Ah:=if G.2.2.1.length=0 then [] else [.arr 63 true (G.2.2.1.map At)]
def RD (G:AK):V:=if G.2.2.1.length=0 then .nil 63 else .ref (1+(PZ G).length)
end Go.Proofs.YtnjedabjbeipeaaGreat
