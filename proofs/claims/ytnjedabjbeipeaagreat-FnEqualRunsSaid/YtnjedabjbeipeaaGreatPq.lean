/-
  Solve on both sides.
  Conditions: those typed in each theorem.
-/
import Derived.Test.YtnjedabjbeipeaaGreatQg
import Derived.Test.YtnjedabjbeipeaaGreatPa
import Derived.Test.YtnjedabjbeipeaaGreatRf
namespace Go.Proofs.YtnjedabjbeipeaaGreat
open Go.RowKit Go.ChangeShapes Go.WideShapes
set_option linter.unusedSimpArgs false
set_option linter.unusedVariables false
set_option maxRecDepth 100000
set_option maxHeartbeats 10000000
theorem iP {P:Program} {f:FuncId} {xs ys:List V} {t t':TypeId} {sl sl':List Ah} {r:V} (h:CN P f (xs++.d (.sl t [])::ys) sl r sl'):CN P f (xs++.nil t'::ys) sl r sl':=by
 refine⟨h.1,h.2.1,fun w φ Fs R hR vs hm hl hv=>h.2.2 w φ Fs R hR vs hm (by simpa using hl) fun i x v hx hv'=>?_⟩;by_cases hi:i=xs.length
 · subst hi;simp at hx;subst hx;have:=hv xs.length (.nil t') v (by simp) hv'
   cases this
   exact .d (.nil _ _ _)
 · refine hv i x v ?_ hv';rw[←hx];rcases Nat.lt_or_ge i xs.length with h'|h'
   · rw[D4 h',D4 h']
   · obtain⟨j,rfl⟩:∃ j,i=xs.length+(j+1):=⟨i - xs.length - 1,by omega⟩;simp[ER]
def Ih (q:List Int):List Bool:=q.map fun x=>x==1
def Dn (v:Int) (cls:List BW) (B:Int):Int×List Bool×List BW :=
 if Gi v cls=true∧DX B 1 600=true then
  (fun r:Ig=>if r.code=1 then (1,Ih r.model,[]) else if r.code=2 then (2,[],r.pf) else (3,[],[])) (CM cls B.toNat B.toNat (List.replicate v.toNat 0) [] [])
 else (0,[],[])
abbrev wE (r:Int×List Bool×List BW):X:=.tup [.d (.int .i64 r.1),.d (Dt 4 (e1 CZ) r.2.1),Xk r.2.2]
def Wz (k s:Nat):V:=if k=0 then .nil 4 else .ref s
def OQ (k:Nat) (xs:List Bool) (sl:List Ah):List Ah:=if k=0 then sl else sl++[.arr 4 true (xs.map (e1 CZ))]
theorem Su {q:List Int} {k:Nat} {x:Int} (hx:q[k]? = some x):Ih (q.take (k+1))=Ih (q.take k)++[x==1]:=by
 unfold Ih;rw[Bb hx,Gp];rfl
theorem IW (q:List Int):(Ih q).length=q.length:=by simp[Ih]
theorem Y4 (x:VI) (B:Int) (hx:VN 1048576 x):BA Tryz.prog 23 [dS x,.d (.int .i64 B)] (wE (Dn x.1 x.2 B)):=by
 obtain⟨v,cls⟩:=x;have hB:Dn v cls B=Dn v cls B:=rfl
 conv at hB=>lhs;unfold Dn
 simp only;generalize Dn v cls B=R at *;refine B7 (by kernel_rfl) Tryz.func23 rfl rfl rfl ?_;simp[ED];refine Ab (Y5 (v,cls) hx) ?_;simp
 cases hok:Gi v cls with
 | false =>
   rw[hok] at hB;simp only[Bool.false_eq_true,false_and,if_false] at hB;subst hB;simp[hok]
 | true =>
 simp[hok];refine Ab (Fo _ _ _) ?_;simp;rcases Ep (DX B 1 600) with hr|hr
 case inr =>
  rw[hok,hr] at hB;simp only[Bool.false_eq_true,and_false,if_false] at hB;subst hB;simp[hr]
 rw[hok,hr] at hB;simp only[and_self,if_true] at hB;have hr2:=AP.1 hr;have hv4:=Hk hok;obtain⟨n,rfl⟩:∃ n:Nat,v=n:=⟨v.toNat,by omega⟩;obtain⟨b,rfl⟩:∃ b:Nat,B=b:=⟨B.toNat,by omega⟩;have hci:CH n cls:=GT hok;have hcc:=Wl n cls b (by omega) (by omega) hx hci b b (List.replicate n 0) [] (List.replicate n 0) [] (Nat.le_refl _) (Int.le_refl _) (by simp) (HN n) (.inl ⟨rfl,rfl⟩) (by simp) (by simp;omega) (by simp;omega) (by simp);have hsf:=FM hci b b (List.replicate n 0) [] [] (by simp) (HN n);simp only[Int.toNat_natCast] at hB;generalize CM cls b b (List.replicate n 0) [] []=r at *;obtain⟨f1,f2,f3,f4⟩:=hsf;simp[hr,show (0:Int)≤n by omega,show (n:Int)≤1099511627776 by omega];have hcn:=iP (xs:=[.ptr 0 0]) (t':=0) hcc;simp only[List.cons_append,List.nil_append,Cj,if_true] at hcn;by_cases h1:r.code=1
 · have hR2:R=(1,Ih r.model,[]):=by rw[←hB,if_pos h1]
   subst hR2;simp only[AO,BM,h1,if_true,if_false,show ((1:Int)=2)=False by simp] at hcn;refine Ac (hcn) [2] [1] (by simp) ?_;simp;have hml:=(f4 h1).1;refine AJ [false,false,false,false,false,false,false,false,true,true,false,false,false,false,false,false,false,false,false,false,false,false,false,false,false,false,false,false,false,false,false,false,false,false,false,true,true,true] (fun k:Nat=>k≤r.model.length) (fun k:Nat=>[(9,Wz k 3),(37,.d (.int .i64 k))]) (fun k:Nat=>OQ k (Ih (r.model.take k))) (fun k:Nat=>r.model.length - k) 0 ?_ ?_ ?_
   · simp
   · exact⟨[0,1,2],by simp[Wz,OQ]⟩
   rintro I Z μ hI hZ hμ k hk;by_cases hlt:k<r.model.length
   · have hx1:r.model[k]? = some r.model[k]:=A1 hlt;have w2:IntKind.i64.wrap ((k:Int)+1)=(k:Int)+1:=Ad (by omega) (by omega);have hd:decide (k<r.model.length)=true:=A8 hlt;have hn:=Su hx1;have hl:(Ih (r.model.take k)).length=k:=by rw[IW,Ge];omega
     generalize r.model[k]=y at *;generalize Ih (r.model.take k)=ms at *;by_cases hk0:k=0
     · subst hk0;have hm:ms=[]:=Gw hl;subst hm;simp[Wz,OQ,hd,hx1];refine Ak L8 rfl (by simp) rfl (by simp) (by simp) (by first | (simp;done)|(simp;omega)) (by simp[AR,AL]) ?_;simp[w2,show IntKind.i64.wrap 1=1 from rfl];exact Ae hI hZ hμ 1 (by omega) (by omega) ⟨[0,1,2,4],by simp[Wz,OQ,hn,e1,CZ]⟩
     · simp[Wz,OQ,hd,hx1,hk0];refine Ak L8 rfl (by simp) rfl (by simp) (by simp) (by first | (simp;done)|(simp;omega)) (by simp[AR,AL]) ?_;simp[w2];exact Ae hI hZ hμ (k+1) (by omega) (by omega) ⟨[0,1,2,5],by simp[Wz,OQ,hn,e1,CZ]⟩
   · have hk':k=r.model.length:=by omega
     subst hk';rw[List.take_length];have hl:=IW r.model;generalize Ih r.model=ms at *;by_cases hk0:r.model.length=0
     · have hm:ms=[]:=Gw (by omega);subst hm;simp[Wz,OQ,hk0,hlt]
     · simp[Wz,OQ,hlt,BH hlt,hk0]
 · by_cases h2:r.code=2
   · have hR2:R=(2,[],r.pf):=by rw[←hB,if_neg h1,if_pos h2]
     subst hR2;simp only[AO,Ei,h2,if_true] at hcn;refine Ac (hcn) [2] [1] (by simp) ?_;simp;refine AH 8 (by kernel_rfl) ?_;simp
   · have h3:r.code=3:=by omega
     have hR2:R=(3,[],[]):=by rw[←hB,if_neg h1,if_neg h2]
     subst hR2;simp only[AO,BM,h1,h2,if_true,if_false] at hcn;rw[h3] at hcn;refine Ac (hcn) [2] [1] (by simp) ?_;simp
theorem YN (x:VI) (B:Int) (hx:VN 1048576 x):BA Tryz.prog 18 [dS x,.d (.int .i64 B)] (wE (Dn x.1 x.2 B)):=by
 obtain⟨v,cls⟩:=x;have hB:Dn v cls B=Dn v cls B:=rfl
 conv at hB=>lhs;unfold Dn
 simp only;generalize Dn v cls B=R at *;refine B7 (by kernel_rfl) Tryz.func18 rfl rfl rfl ?_;simp[ED];refine Ab (YZ (v,cls) hx) ?_;simp
 cases hok:Gi v cls with
 | false =>
   rw[hok] at hB;simp only[Bool.false_eq_true,false_and,if_false] at hB;subst hB;simp[hok]
 | true =>
 simp[hok];refine Ab (EW _ _ _) ?_;simp;rcases Ep (DX B 1 600) with hr|hr
 case inr =>
  rw[hok,hr] at hB;simp only[Bool.false_eq_true,and_false,if_false] at hB;subst hB;simp[hr]
 rw[hok,hr] at hB;simp only[and_self,if_true] at hB;have hr2:=AP.1 hr;have hv4:=Hk hok;obtain⟨n,rfl⟩:∃ n:Nat,v=n:=⟨v.toNat,by omega⟩;obtain⟨b,rfl⟩:∃ b:Nat,B=b:=⟨B.toNat,by omega⟩;have hci:CH n cls:=GT hok;have hcc:=WP n cls (by omega) hx hci b b (List.replicate n 0) [] [] (Nat.le_refl _) (by simp) (HN n) (by simp) (by simp;omega) (by simp;omega) (by simp);have hsf:=FM hci b b (List.replicate n 0) [] [] (by simp) (HN n);simp only[Int.toNat_natCast] at hB;generalize CM cls b b (List.replicate n 0) [] []=r at *;obtain⟨f1,f2,f3,f4⟩:=hsf;simp[hr,show (0:Int)≤n by omega,show (n:Int)≤1099511627776 by omega];simp only[KP,Fu,if_true] at hcc;by_cases h1:r.code=1
 · have hR2:R=(1,Ih r.model,[]):=by rw[←hB,if_pos h1]
   subst hR2;simp only[Ca,Er,h1,if_true,if_false,show ((1:Int)=2)=False by simp] at hcc;refine Ac (hcc) [3,4] [2] (by simp) ?_;simp;have hml:=(f4 h1).1;refine AB [false,false,false,false,false,false,false,true,true,true,true] (fun k:Nat=>k≤r.model.length) (fun k:Nat=>[(10,.d (.int .i64 k))]) (fun k:Nat=>[(1,.arr 4 true ((Ih (r.model.take k)).map (e1 CZ)))]) (fun k:Nat=>r.model.length - k) 0 ?_ ?_ ?_
   · exact Nat.zero_le _
   · exact⟨[0,1,2,3,4],by simp[Ih]⟩
   rintro I Z μ hI hZ hμ k hk;by_cases hlt:k<r.model.length
   · have hx1:r.model[k]? = some r.model[k]:=A1 hlt;have w2:IntKind.i64.wrap ((k:Int)+1)=(k:Int)+1:=Ad (by omega) (by omega);have hd:decide (k<r.model.length)=true:=A8 hlt;have hn:=Su hx1;have hl:(Ih (r.model.take k)).length=k:=by rw[IW,Ge];omega
     generalize r.model[k]=y at *;generalize Ih (r.model.take k)=ms at *;simp[hd,hx1];refine Ak L8 rfl (by simp) rfl (by simp) (by simp) (by first | (simp;done)|(simp;omega)) (by simp[AR,AL]) ?_;simp[w2];exact Ae hI hZ hμ (k+1) (by omega) (by omega) ⟨[0,6,2,3,4],by simp[hn,e1,CZ]⟩
   · have hk':k=r.model.length:=by omega
     subst hk';rw[List.take_length];have hl:=IW r.model;generalize Ih r.model=ms at *;simp[hlt,BH hlt]
 · by_cases h2:r.code=2
   · have hR2:R=(2,[],r.pf):=by rw[←hB,if_neg h1,if_pos h2]
     subst hR2;simp only[Ca,Ke,h2,if_true] at hcc;refine Ac (hcc) [3,4] [2] (by simp) ?_;simp;refine AH 9 (by kernel_rfl) ?_;simp
   · have h3:r.code=3:=by omega
     have hR2:R=(3,[],[]):=by rw[←hB,if_neg h1,if_neg h2]
     subst hR2;simp only[Ca,Er,h1,h2,if_true,if_false] at hcc;rw[h3] at hcc;refine Ac (hcc) [3,4] [2] (by simp) ?_;simp
def J0 (c:Cc):Int:=1+Au c 4
def cZ (c:Cc):Cc:=Ag (Ag (Ag c 4) 4) 15
def Mr (c:Cc):Nat:=(Au (Ag c 4) 4).toNat
def MX (c:Cc):Nat:=(Au (Ag (Ag c 4) 4) 15).toNat
def aD (c:Cc):Nat:=1+(J0 c).toNat+Mr c
def Mz (c:Cc):Int:=2*((aD c:Int)+MX c)
def O1 (c:Cc):Cc×List Ai:=VT (aD c) (cZ c) (MX c)
def IV (c:Cc):Cc×List Cv:=N9 (Mz c) (O1 c).1 (Mr c)
def Q6 (c:Cc):Cc×List Int:=IB (Mz c) (Ag (IV c).1 4) ((Au (IV c).1 4).toNat+1)
def Fw (c:Cc):AK:=(J0 c,(IV c).2,(O1 c).2,(Q6 c).2)
def Pt (c:Cc):Cc:=(Q6 c).1
theorem Ma (c:Cc):(1≤J0 c∧J0 c≤4)∧Mr c≤3∧MX c≤14:=by
 have b1:=AU c (n:=4) (by omega);have b2:=AU (Ag c 4) (n:=4) (by omega);have b3:=AU (Ag (Ag c 4) 4) (n:=15) (by omega);unfold J0 Mr MX;omega
theorem Y7 {c:Cc} (h:c.ok):(Pt c).ok:=Ni (Aw (Na (Up (Aw (Aw (Aw h))) _) _)) _
theorem NY {c:Cc}:Al (Fw c)=true:=by
 obtain⟨h1,h2,h3⟩:=Ma c;have hF:aD c=1+(J0 c).toNat+Mr c:=rfl;have ht:Mz c=2*((aD c:Int)+MX c):=rfl;have lS:(IV c).2.length=Mr c:=Jy _;have lA:(O1 c).2.length=MX c:=KU _;have lO:(Q6 c).2.length=(Au (IV c).1 4).toNat+1:=JC _;have b4:=AU (IV c).1 (n:=4) (by omega)
 have hN:A0 (Fw c)=aD c+MX c:=by
  show 1+(J0 c).toNat+(IV c).2.length+(O1 c).2.length=_;omega
 have hG:Aa (Fw c)=aD c:=by
  show 1+(J0 c).toNat+(IV c).2.length=_;omega
 have hS:=Wi (top:=Mz c) (c:=(O1 c).1) (by omega) (Mr c);have hO:=VS (top:=Mz c) (c:=Ag (IV c).1 4) (by omega) ((Au (IV c).1 4).toNat+1);refine Mn (by show 0≤J0 c∧J0 c≤20;omega) (by show (IV c).2.length≤12;omega) (by show (O1 c).2.length≤300;omega) (by show (Q6 c).2.length≤16;omega) (fun s hs=>(hS s hs).1) (fun y hy=>?_) (fun s hs y hy=>?_) (PX fun k a ha=>?_)
 · have:=hO y hy;rw[hN];omega
 · have:=(hS s hs).2 y hy;rw[hN];omega
 · rw[hG,Nat.zero_add];exact gJ (F:=aD c) (c:=cZ c) (by omega) (MX c) k a ha
def O8 (b:Bool):Int:=if b=true then 1 else 0
theorem Rl (b:Bool):BA Tryz.prog 19 [.d (.bool b)] (.d (.int .i64 (O8 b))):=by
 refine A6 (by kernel_rfl) Tryz.func19 rfl rfl rfl ?_
 cases b with
 | false =>
   simp[O8]
 | true =>
   simp[O8]
def nC (t:TypeId) (i k:Nat):V:=if i=0 then .nil t else .ref k
def nS (t:TypeId) (i:Nat) (es:List (List D)):List Ah:=if i=0 then [] else [.arr t true es]
abbrev zG:Ah:=.var 28 [.d (.int .i64 0),.nil 57,.nil 63,.nil 3]
def Ra (G:AK):List Ah:=if G.2.1.length=0 then [] else [.arr 57 true (G.2.1.map AY)]
def RL (G:AK):V:=if G.2.1.length=0 then .nil 57 else .ref 1
def RB (G:AK):List Ah:=if G.2.2.1.length=0 then [] else [.arr 63 true (G.2.2.1.map At)]
def RW (G:AK):V:=if G.2.2.1.length=0 then .nil 63 else .ref (1+(Ra G).length)
end Go.Proofs.YtnjedabjbeipeaaGreat
