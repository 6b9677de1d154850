/-
  Solve on both sides.
  Conditions: those typed in each theorem.
-/
import Derived.Test.YtnjedabjbeipeaaGreatQg
import Derived.Test.YtnjedabjbeipeaaGreatPa
import Derived.Test.YtnjedabjbeipeaaGreatRf
namespace Go.Proofs.YtnjedabjbeipeaaGreat
open Go.RowKit Go.ChangeShapes Go.WideShapes
set_option linter.unusedSimpArgs false
set_option linter.unusedVariables false
set_option maxRecDepth 100000
set_option maxHeartbeats 10000000
theorem gL {P:Program} {f:FuncId} {xs ys:List V} {t t':TypeId} {sl sl':List Ah} {r:V} (h:CG P f (xs++.d (.sl t [])::ys) sl r sl'):CG P f (xs++.nil t'::ys) sl r sl':=by
 refine⟨h.1,h.2.1,fun w φ Fs R hR vs hm hl hv=>h.2.2 w φ Fs R hR vs hm (by simpa using hl) fun i x v hx hv'=>?_⟩;by_cases hi:i=xs.length
 · subst hi;simp at hx;subst hx;have:=hv xs.length (.nil t') v (by simp) hv'
   cases this
   exact .d (.nil _ _ _)
 · refine hv i x v ?_ hv';rw[←hx];rcases Nat.lt_or_ge i xs.length with h'|h'
   · rw[zz4 h',zz4 h']
   · obtain⟨j,rfl⟩:∃ j,i=xs.length+(j+1):=⟨i - xs.length - 1,by omega⟩;simp[zz5]
def HO (q:List Int):List Bool:=q.map fun x=>x==1
def De (v:Int) (cls:List BT) (B:Int):Int×List Bool×List BT :=
 if FX v cls=true∧DM B 1 600=true then
  (fun r:HL=>if r.code=1 then (1,HO r.model,[]) else if r.code=2 then (2,[],r.pf) else (3,[],[])) (CH cls B.toNat B.toNat (List.replicate v.toNat 0) [] [])
 else (0,[],[])
abbrev uN (r:Int×List Bool×List BT):X:=.tup [.d (.int .i64 r.1),.d (Dh 4 (e1 CQ) r.2.1),US r.2.2]
def VX (k s:Nat):V:=if k=0 then .nil 4 else .ref s
def Ok (k:Nat) (xs:List Bool) (sl:List Ah):List Ah:=if k=0 then sl else sl++[.arr 4 true (xs.map (e1 CQ))]
theorem Sy {q:List Int} {k:Nat} {x:Int} (hx:q[k]? = some x):HO (q.take (k+1))=HO (q.take k)++[x==1]:=by
 unfold HO;rw[Ba hx,ABe];rfl
theorem Ic (q:List Int):(HO q).length=q.length:=by simp[HO]
theorem X9 (x:UY) (B:Int) (hx:VE 1048576 x):Bx Tryz.prog 23 [aU x,.d (.int .i64 B)] (uN (De x.1 x.2 B)):=by
 obtain⟨v,cls⟩:=x;have hB:De v cls B=De v cls B:=rfl
 conv at hB=>lhs;unfold De
 simp only;generalize De v cls B=R at *;refine B3 (by kernel_rfl) Tryz.func23 rfl rfl rfl ?_;simp[Eo];refine Ab (XU (v,cls) hx) ?_;simp
 cases hok:FX v cls with
 | false =>
   rw[hok] at hB;simp only[Bool.false_eq_true,false_and,if_false] at hB;subst hB;simp[hok]
 | true =>
 simp[hok];refine Ab (E8 _ _ _) ?_;simp;rcases ABu (DM B 1 600) with hr|hr
 case inr =>
  rw[hok,hr] at hB;simp only[Bool.false_eq_true,and_false,if_false] at hB;subst hB;simp[hr]
 rw[hok,hr] at hB;simp only[and_self,if_true] at hB;have hr2:=AP.1 hr;have hv4:=GW hok;obtain⟨n,rfl⟩:∃ n:Nat,v=n:=⟨v.toNat,by omega⟩;obtain⟨b,rfl⟩:∃ b:Nat,B=b:=⟨B.toNat,by omega⟩;have hci:CA n cls:=Gv hok;have hcc:=WS n cls b (by omega) (by omega) hx hci b b (List.replicate n 0) [] (List.replicate n 0) [] (Nat.le_refl _) (Int.le_refl _) (by simp) (Hh n) (.inl ⟨rfl,rfl⟩) (by simp) (by simp;omega) (by simp;omega) (by simp);have hsf:=Ft hci b b (List.replicate n 0) [] [] (by simp) (Hh n);simp only[Int.toNat_natCast] at hB;generalize CH cls b b (List.replicate n 0) [] []=r at *;obtain⟨f1,f2,f3,f4⟩:=hsf;simp[hr,show (0:Int)≤n by omega,show (n:Int)≤1099511627776 by omega];have hcn:=gL (xs:=[.ptr 0 0]) (t':=0) hcc;simp only[List.cons_append,List.nil_append,Cf,if_true] at hcn;by_cases h1:r.code=1
 · have hR2:R=(1,HO r.model,[]):=by rw[←hB,if_pos h1]
   subst hR2;simp only[AO,BJ,h1,if_true,if_false,show ((1:Int)=2)=False by simp] at hcn;refine Ac (hcn) [2] [1] (by simp) ?_;simp;have hml:=(f4 h1).1;refine AH [false,false,false,false,false,false,false,false,true,true,false,false,false,false,false,false,false,false,false,false,false,false,false,false,false,false,false,false,false,false,false,false,false,false,false,true,true,true] (fun k:Nat=>k≤r.model.length) (fun k:Nat=>[(9,VX k 3),(37,.d (.int .i64 k))]) (fun k:Nat=>Ok k (HO (r.model.take k))) (fun k:Nat=>r.model.length - k) 0 ?_ ?_ ?_
   · simp
   · exact⟨[0,1,2],by simp[VX,Ok]⟩
   rintro I Z μ hI hZ hμ k hk;by_cases hlt:k<r.model.length
   · have hx1:r.model[k]? = some r.model[k]:=zz0 hlt;have w2:IntKind.i64.wrap ((k:Int)+1)=(k:Int)+1:=Ad (by omega) (by omega);have hd:decide (k<r.model.length)=true:=zz2 hlt;have hn:=Sy hx1;have hl:(HO (r.model.take k)).length=k:=by rw[Ic,ACC];omega
     generalize r.model[k]=y at *;generalize HO (r.model.take k)=ms at *;by_cases hk0:k=0
     · subst hk0;have hm:ms=[]:=zz7 hl;subst hm;simp[VX,Ok,hd,hx1];refine Ak LN rfl (by simp) rfl (by simp) (by simp) (by first | (simp;done)|(simp;omega)) (by simp[AR,AL]) ?_;simp[w2,show IntKind.i64.wrap 1=1 from rfl];exact Ae hI hZ hμ 1 (by omega) (by omega) ⟨[0,1,2,4],by simp[VX,Ok,hn,e1,CQ]⟩
     · simp[VX,Ok,hd,hx1,hk0];refine Ak LN rfl (by simp) rfl (by simp) (by simp) (by first | (simp;done)|(simp;omega)) (by simp[AR,AL]) ?_;simp[w2];exact Ae hI hZ hμ (k+1) (by omega) (by omega) ⟨[0,1,2,5],by simp[VX,Ok,hn,e1,CQ]⟩
   · have hk':k=r.model.length:=by omega
     subst hk';rw[List.take_length];have hl:=Ic r.model;generalize HO r.model=ms at *;by_cases hk0:r.model.length=0
     · have hm:ms=[]:=zz7 (by omega);subst hm;simp[VX,Ok,hk0,hlt]
     · simp[VX,Ok,hlt,zz3 hlt,hk0]
 · by_cases h2:r.code=2
   · have hR2:R=(2,[],r.pf):=by rw[←hB,if_neg h1,if_pos h2]
     subst hR2;simp only[AO,D7,h2,if_true] at hcn;refine Ac (hcn) [2] [1] (by simp) ?_;simp;refine AJ 8 (by kernel_rfl) ?_;simp
   · have h3:r.code=3:=by omega
     have hR2:R=(3,[],[]):=by rw[←hB,if_neg h1,if_neg h2]
     subst hR2;simp only[AO,BJ,h1,h2,if_true,if_false] at hcn;rw[h3] at hcn;refine Ac (hcn) [2] [1] (by simp) ?_;simp
theorem X4 (x:UY) (B:Int) (hx:VE 1048576 x):Bx Tryz.prog 18 [aU x,.d (.int .i64 B)] (uN (De x.1 x.2 B)):=by
 obtain⟨v,cls⟩:=x;have hB:De v cls B=De v cls B:=rfl
 conv at hB=>lhs;unfold De
 simp only;generalize De v cls B=R at *;refine B3 (by kernel_rfl) Tryz.func18 rfl rfl rfl ?_;simp[Eo];refine Ab (Xh (v,cls) hx) ?_;simp
 cases hok:FX v cls with
 | false =>
   rw[hok] at hB;simp only[Bool.false_eq_true,false_and,if_false] at hB;subst hB;simp[hok]
 | true =>
 simp[hok];refine Ab (EN _ _ _) ?_;simp;rcases ABu (DM B 1 600) with hr|hr
 case inr =>
  rw[hok,hr] at hB;simp only[Bool.false_eq_true,and_false,if_false] at hB;subst hB;simp[hr]
 rw[hok,hr] at hB;simp only[and_self,if_true] at hB;have hr2:=AP.1 hr;have hv4:=GW hok;obtain⟨n,rfl⟩:∃ n:Nat,v=n:=⟨v.toNat,by omega⟩;obtain⟨b,rfl⟩:∃ b:Nat,B=b:=⟨B.toNat,by omega⟩;have hci:CA n cls:=Gv hok;have hcc:=Wj n cls (by omega) hx hci b b (List.replicate n 0) [] [] (Nat.le_refl _) (by simp) (Hh n) (by simp) (by simp;omega) (by simp;omega) (by simp);have hsf:=Ft hci b b (List.replicate n 0) [] [] (by simp) (Hh n);simp only[Int.toNat_natCast] at hB;generalize CH cls b b (List.replicate n 0) [] []=r at *;obtain⟨f1,f2,f3,f4⟩:=hsf;simp[hr,show (0:Int)≤n by omega,show (n:Int)≤1099511627776 by omega];simp only[Kf,Fb,if_true] at hcc;by_cases h1:r.code=1
 · have hR2:R=(1,HO r.model,[]):=by rw[←hB,if_pos h1]
   subst hR2;simp only[B6,Ec,h1,if_true,if_false,show ((1:Int)=2)=False by simp] at hcc;refine Ac (hcc) [3,4] [2] (by simp) ?_;simp;have hml:=(f4 h1).1;refine AB [false,false,false,false,false,false,false,true,true,true,true] (fun k:Nat=>k≤r.model.length) (fun k:Nat=>[(10,.d (.int .i64 k))]) (fun k:Nat=>[(1,.arr 4 true ((HO (r.model.take k)).map (e1 CQ)))]) (fun k:Nat=>r.model.length - k) 0 ?_ ?_ ?_
   · exact Nat.zero_le _
   · exact⟨[0,1,2,3,4],by simp[HO]⟩
   rintro I Z μ hI hZ hμ k hk;by_cases hlt:k<r.model.length
   · have hx1:r.model[k]? = some r.model[k]:=zz0 hlt;have w2:IntKind.i64.wrap ((k:Int)+1)=(k:Int)+1:=Ad (by omega) (by omega);have hd:decide (k<r.model.length)=true:=zz2 hlt;have hn:=Sy hx1;have hl:(HO (r.model.take k)).length=k:=by rw[Ic,ACC];omega
     generalize r.model[k]=y at *;generalize HO (r.model.take k)=ms at *;simp[hd,hx1];refine Ak LN rfl (by simp) rfl (by simp) (by simp) (by first | (simp;done)|(simp;omega)) (by simp[AR,AL]) ?_;simp[w2];exact Ae hI hZ hμ (k+1) (by omega) (by omega) ⟨[0,6,2,3,4],by simp[hn,e1,CQ]⟩
   · have hk':k=r.model.length:=by omega
     subst hk';rw[List.take_length];have hl:=Ic r.model;generalize HO r.model=ms at *;simp[hlt,zz3 hlt]
 · by_cases h2:r.code=2
   · have hR2:R=(2,[],r.pf):=by rw[←hB,if_neg h1,if_pos h2]
     subst hR2;simp only[B6,JB,h2,if_true] at hcc;refine Ac (hcc) [3,4] [2] (by simp) ?_;simp;refine AJ 9 (by kernel_rfl) ?_;simp
   · have h3:r.code=3:=by omega
     have hR2:R=(3,[],[]):=by rw[←hB,if_neg h1,if_neg h2]
     subst hR2;simp only[B6,Ec,h1,h2,if_true,if_false] at hcc;rw[h3] at hcc;refine Ac (hcc) [3,4] [2] (by simp) ?_;simp
def Ju (c:B9):Int:=1+Au c 4
def Z7 (c:B9):B9:=Ag (Ag (Ag c 4) 4) 15
def L4 (c:B9):Nat:=(Au (Ag c 4) 4).toNat
def LA (c:B9):Nat:=(Au (Ag (Ag c 4) 4) 15).toNat
def aR (c:B9):Nat:=1+(Ju c).toNat+L4 c
def LQ (c:B9):Int:=2*((aR c:Int)+LA c)
def Ot (c:B9):B9×List Ai:=Wh (aR c) (Z7 c) (LA c)
def Il (c:B9):B9×List Cr:=NM (LQ c) (Ot c).1 (L4 c)
def PP (c:B9):B9×List Int:=H6 (LQ c) (Ag (Il c).1 4) ((Au (Il c).1 4).toNat+1)
def Fd (c:B9):AK:=(Ju c,(Il c).2,(Ot c).2,(PP c).2)
def OR (c:B9):B9:=(PP c).1
theorem LM (c:B9):(1≤Ju c∧Ju c≤4)∧L4 c≤3∧LA c≤14:=by
 have b1:=AV c (n:=4) (by omega);have b2:=AV (Ag c 4) (n:=4) (by omega);have b3:=AV (Ag (Ag c 4) 4) (n:=15) (by omega);unfold Ju L4 LA;omega
theorem Ys {c:B9} (h:c.ok):(OR c).ok:=Ny (Aw (MT (Tp (Aw (Aw (Aw h))) _) _)) _
theorem MF {c:B9}:Al (Fd c)=true:=by
 obtain⟨h1,h2,h3⟩:=LM c;have hF:aR c=1+(Ju c).toNat+L4 c:=rfl;have ht:LQ c=2*((aR c:Int)+LA c):=rfl;have lS:(Il c).2.length=L4 c:=I7 _;have lA:(Ot c).2.length=LA c:=Kq _;have lO:(PP c).2.length=(Au (Il c).1 4).toNat+1:=IR _;have b4:=AV (Il c).1 (n:=4) (by omega)
 have hN:A0 (Fd c)=aR c+LA c:=by
  show 1+(Ju c).toNat+(Il c).2.length+(Ot c).2.length=_;omega
 have hG:Aa (Fd c)=aR c:=by
  show 1+(Ju c).toNat+(Il c).2.length=_;omega
 have hS:=Wg (top:=LQ c) (c:=(Ot c).1) (by omega) (L4 c);have hO:=WF (top:=LQ c) (c:=Ag (Il c).1 4) (by omega) ((Au (Il c).1 4).toNat+1);refine LG (by show 0≤Ju c∧Ju c≤20;omega) (by show (Il c).2.length≤12;omega) (by show (Ot c).2.length≤300;omega) (by show (PP c).2.length≤16;omega) (fun s hs=>(hS s hs).1) (fun y hy=>?_) (fun s hs y hy=>?_) (Qc fun k a ha=>?_)
 · have:=hO y hy;rw[hN];omega
 · have:=(hS s hs).2 y hy;rw[hN];omega
 · rw[hG,Nat.zero_add];exact fN (F:=aR c) (c:=Z7 c) (by omega) (LA c) k a ha
def Ow (b:Bool):Int:=if b=true then 1 else 0
theorem Pp (b:Bool):Bx Tryz.prog 19 [.d (.bool b)] (.d (.int .i64 (Ow b))):=by
 refine A5 (by kernel_rfl) Tryz.func19 rfl rfl rfl ?_
 cases b with
 | false =>
   simp[Ow]
 | true =>
   simp[Ow]
def nC (t:TypeId) (i k:Nat):V:=if i=0 then .nil t else .ref k
def nS (t:TypeId) (i:Nat) (es:List (List D)):List Ah:=if i=0 then [] else [.arr t true es]
abbrev zG:Ah:=.var 28 [.d (.int .i64 0),.nil 57,.nil 63,.nil 3]
def Qf (G:AK):List Ah:=if G.2.1.length=0 then [] else [.arr 57 true (G.2.1.map AY)]
def Rn (G:AK):V:=if G.2.1.length=0 then .nil 57 else .ref 1
def Q0 (G:AK):List Ah:=if G.2.2.1.length=0 then [] else [.arr 63 true (G.2.2.1.map At)]
def Rg (G:AK):V:=if G.2.2.1.length=0 then .nil 63 else .ref (1+(Qf G).length)
end Go.Proofs.YtnjedabjbeipeaaGreat
