/-
  Values of nodes, and numbers of bits; small contracts, by abstract walks.
  Conditions: those typed in each theorem.
-/
import Derived.Test.YtnjedabjbeipeaaGreatNd
namespace Go.Proofs.YtnjedabjbeipeaaGreat
open Go.RowKit Go.ChangeShapes Go.WideShapes
set_option linter.unusedSimpArgs false
set_option linter.unusedVariables false
set_option maxRecDepth 100000
set_option maxHeartbeats 10000000
abbrev ints (xs:List Int):X:=.d (Dh 3 (e1 AC) xs)
def A1 (lv:List Int) (k:Int):Int:=(lv[k.toNat]?).getD 0
theorem B8 {lv:List Int} {k:Int} (h:0≤k∧k<lv.length):lv[k.toNat]? = some (A1 lv k):=by
 unfold A1;rw[zz0 (by omega)];rfl
def CX (vs:List Int):Prop:=∀ v∈vs,0≤v∧v≤1
theorem KJ {lv:List Int} (h:CX lv) (k:Int):0≤A1 lv k∧A1 lv k≤1:=by
 unfold A1
 cases hk:lv[k.toNat]? with
 | none=>simp
 | some v=>exact h v (zz6 hk)
def CT (vs:List Int):Nat→Int
 | 0=>0
 | k+1=>CT vs k+(vs[k]?).getD 0*2 ^ k
def G0 (vs:List Int):Int:=CT vs vs.length
theorem JI {vs:List Int} (h:CX vs):∀ k,0≤CT vs k∧CT vs k<2 ^ k
 | 0=>by simp[CT]
 | k+1=>by
   have ih:=JI h k
   have hb:0≤(vs[k]?).getD 0∧(vs[k]?).getD 0≤1:=by
    cases hk:vs[k]? with
    | none=>simp
    | some v=>exact h v (zz6 hk)
   have hp:(2:Int) ^ (k+1)=2 ^ k*2:=Int.pow_succ 2 k;unfold CT;rcases Et hb with h0|h0<;>rw[h0,hp]<;>constructor<;>omega
theorem Vs {vs:List Int} {v:Int} {k:Nat} (h:CX vs) (hx:vs[k]? = some v) (hk:k≤60):XR (CT vs k) (EC v k)=CT vs (k+1):=by
 have hv:=h v (zz6 hx);rw[MJ hv (by omega),eV (JI h k) hv (by omega)];simp[CT,hx]
theorem Sw {vs:List Int} {v:Int} {k:Nat} (h:CX vs) (hx:vs[k]? = some v) (hk:k≤60):IntKind.i64.wrap (CT vs k+EC v k)=CT vs (k+1):=by
 have hv:=h v (zz6 hx);rw[MJ hv (by omega)];have e:CT vs k+v*2 ^ k=CT vs (k+1):=by simp[CT,hx]
 rw[e];have:=JI h (k+1);have hp:=Yn (k:=k+1) (n:=61) (by omega);exact Ad (by omega) (by omega)
theorem Nc {α:Type} {f:α→Int} {xs:List α} (h:∀ x∈xs,0≤f x∧f x≤1):CX (xs.map f):=by
 intro v hv;obtain⟨x,hx,rfl⟩:=ABc.1 hv;exact h x hx
def Bc (lv:List Int) (l:Int):Int:=(A1 lv (l / 2)+l % 2) % 2
theorem Dw (lv:List Int) (l:Int):0≤Bc lv l∧Bc lv l≤1:=by unfold Bc;omega
def Xr (lv:List Int) (xs:List Int):Prop:=∀ y∈xs,0≤y∧y<2*lv.length
theorem Jb (lv:List Int) (l:Int) (hl:CX lv) (hn:0≤l∧l<2*lv.length) (hlv:lv.length≤1048576):Bx Tryz.prog 94 [ints lv,.d (.int .i64 l)] (.d (.int .i64 (Bc lv l))):=by
 refine A5 (by kernel_rfl) Tryz.func94 rfl rfl rfl ?_;have hq:=M5 hn.1 (by omega);have hr:=B8 (lv:=lv) (k:=l / 2) (by omega);have hb:=KJ hl (l / 2);have hx:Bl (A1 lv (l / 2)) (l % 2)=Bc lv l:=by rw[RL hb (by omega)];rfl
 simp[hq,hr,show ¬ l / 2<0 by omega,CC,hx]
theorem PW (lv:List Int) (l:Int) (hl:CX lv) (hn:0≤l∧l<2*lv.length) (hlv:lv.length≤1048576):Bx Tryz.prog 109 [ints lv,.d (.int .i64 l)] (.d (.int .i64 (Bc lv l))):=by
 refine A5 (by kernel_rfl) Tryz.func109 rfl rfl rfl ?_;have hq:=M5 hn.1 (by omega);have hr:=B8 (lv:=lv) (k:=l / 2) (by omega);have hb:=KJ hl (l / 2);have hx:Bl (A1 lv (l / 2)) (l % 2)=Bc lv l:=by rw[RL hb (by omega)];rfl
 simp[hq,hr,show ¬ l / 2<0 by omega,CC,hx]
theorem G4 (lv xs:List Int) (hl:CX lv) (hn:Xr lv xs) (hx:xs.length≤16) (hlv:lv.length≤1048576):Bx Tryz.prog 67 [ints lv,ints xs] (.d (.int .i64 (G0 (xs.map (Bc lv))))):=by
 obtain⟨vs,hvs⟩:∃ vs,vs=xs.map (Bc lv):=⟨_,rfl⟩;have hb:CX vs:=by rw[hvs];exact Nc fun y _=>Dw lv y
 have hlen:vs.length=xs.length:=by simp[hvs]
 have hP:G0 vs=CT vs xs.length:=by rw[G0,hlen]
 rw[←hvs,hP];refine A5 (by kernel_rfl) Tryz.func67 rfl rfl rfl ?_;simp;refine AB [true,false,false,false,false,true,false,false,true,true,true] (fun k:Nat=>k≤xs.length) (fun k:Nat=>[(5,.d (.int .i64 (CT vs k))),(10,.d (.int .i64 k))]) (fun k:Nat=>[]) (fun k:Nat=>xs.length - k) 0 ?_ ?_ ?_
 · simp
 · exact⟨[],by simp[CT]⟩
 rintro I S μ hI hS hμ k hk;by_cases hlt:k<xs.length
 · have hx1:xs[k]? = some xs[k]:=zz0 hlt;have w2:IntKind.i64.wrap ((k:Int)+1)=(k:Int)+1:=Ad (by omega) (by omega);have hy:=hn _ (ABt hlt);have hv1:vs[k]? = some (Bc lv xs[k]):=by rw[hvs,ABz,hx1];rfl
   generalize xs[k]=y at *;have hd:decide (k<xs.length)=true:=zz2 hlt;have hor:=Vs hb hv1 (by omega);have wk:IntKind.u64.wrap (k:Int)=k:=M8 (by omega) (by omega);simp[hd,hx1];refine Ab (Jb lv y hl hy hlv) ?_;simp[wk,hor,w2];exact Ae hI hS hμ (k+1) (by omega) (by omega) ⟨[],by simp⟩
 · have hk':k=xs.length:=by omega
   simp[hlt,hk']
def Sx (a b:List Int):Bool:=decide (a=b)
theorem W3 {a b:List Int} {k:Nat} (hl:a.length=b.length) (hk:k<a.length) (h:a.take k=b.take k) (he:a[k]? = b[k]?):a.take (k+1)=b.take (k+1):=by
 have h1:a[k]? = some a[k]:=zz0 hk;rw[Ba h1,Ba (xs:=b) (he▸h1),h]
theorem lJ {lv:List Int} {i:Nat} {v:Int}:(lv.map (e1 AC)).set i [.int .i64 v]=(lv.set i v).map (e1 AC):=by rw[List.map_set];rfl
theorem MO {lv:List Int} {i:Nat} {v:Int} (h:CX lv) (hv:0≤v∧v≤1):CX (lv.set i v):=by
 intro y hy;rcases List.mem_or_eq_of_mem_set hy with h1|rfl
 · exact h y h1
 · exact hv
def Tq (N:Nat) (inp:Int):Nat→List Int
 | 0=>List.replicate N 0
 | k+1=>(Tq N inp k).set (1+k) (Uz inp k)
def Zb (v0:List Int) (f:Nat) (st:List Int):Nat→List Int
 | 0=>v0
 | k+1=>(Zb v0 f st k).set (f+k) ((st[k]?).getD 0 % 2)
theorem OU {N:Nat} {i:Int}:∀ k,(Tq N i k).length=N
 | 0=>by simp[Tq]
 | k+1=>by simp[Tq,OU k]
theorem O6 {v0:List Int} {f:Nat} {st:List Int}:∀ k,(Zb v0 f st k).length=v0.length
 | 0=>rfl
 | k+1=>by simp[Zb,O6 k]
theorem Wx {N:Nat} {i:Int}:∀ k,CX (Tq N i k)
 | 0=>by intro y hy;have:=List.eq_of_mem_replicate hy;omega
 | k+1=>MO (Wx k) (XW _ _)
theorem UV {v0:List Int} {f:Nat} {st:List Int} (h:CX v0):∀ k,CX (Zb v0 f st k)
 | 0=>h
 | k+1=>MO (UV h k) (by omega)
theorem lC {a b:Int} (ha:0≤a∧a≤1) (hb:0≤b∧b≤1):0≤a*b∧a*b≤1:=by
 rcases Et ha with rfl|rfl<;>simp<;>omega
theorem AH {P:Program} {m:Mode} {Q:Exit→St→Prop} {c:Code} {T:List V} {sl0:List Ah} {ι:Type} (mask:List Bool) (I:ι→Prop) (upd:ι→List (Nat×V)) (fsl:ι→List Ah→List Ah) (μ:ι→Nat) (i0:ι) (h0:I i0)
 (hle:Le m ⟨T,sl0⟩ ⟨sets (Jn mask T) (upd i0),fsl i0 sl0⟩)
 (hr:∀ (I':ι→Prop) (S':ι→St) (μ':ι→Nat),(∀ i,I' i↔I i)→(∀ i,S' i=⟨sets (Jn mask T) (upd i),fsl i sl0⟩)→(∀ i,μ' i=μ i)→∀ i,I i→Ii P m c (GH (Wb m I' S' μ' i) Q) ⟨sets (Jn mask T) (upd i),fsl i sl0⟩):Ii P m (.loop c) Q ⟨T,sl0⟩ :=
 UL I (fun i=>⟨sets (Jn mask T) (upd i),fsl i sl0⟩) μ i0 h0 hle hr
def C7 (k s:Nat):V:=if k=0 then .nil 3 else .ref s
def C8 (k:Nat) (xs:List Int) (sl:List Ah):List Ah:=if k=0 then sl else sl++[.arr 3 true (xs.map (e1 AC))]
theorem DE {s:Cr} (h:Bz s=true):s.2.2.length≤4:=by
 unfold Bz at h;split at h
 · simp at h;omega
 · split at h
   · simp at h;omega
   · cases h
def SY (v0:List Int) (f:Nat) (ns:List Ai):Nat→List Int
 | 0=>v0
 | k+1=>(SY v0 f ns k).set (f+k) (Bc (SY v0 f ns k) ((ns[k]?).getD (0,0)).1*Bc (SY v0 f ns k) ((ns[k]?).getD (0,0)).2)
theorem OO {v0:List Int} {f:Nat} {ns:List Ai}:∀ k,(SY v0 f ns k).length=v0.length
 | 0=>rfl
 | k+1=>by simp[SY,OO k]
theorem QP {v0:List Int} {f:Nat} {ns:List Ai} (h:CX v0):∀ k,CX (SY v0 f ns k)
 | 0=>h
 | k+1=>MO (QP h k) (lC (Dw _ _) (Dw _ _))
def A0 (x:AK):Nat:=1+x.1.toNat+x.2.1.length+x.2.2.1.length
def nY (x:AK) (inp:Int):List Int:=Tq (A0 x) inp x.1.toNat
def Wd (x:AK) (st:List Int) (inp:Int):List Int:=Zb (nY x inp) (1+x.1.toNat) st st.length
def BS (x:AK) (st:List Int) (inp:Int):List Int:=SY (Wd x st inp) (1+x.1.toNat+x.2.1.length) x.2.2.1 x.2.2.1.length
theorem Y8 {x:AK} {i:Int}:(nY x i).length=A0 x:=OU _
theorem Zk {x:AK} {st:List Int} {i:Int}:(Wd x st i).length=A0 x:=by unfold Wd;rw[O6,Y8]
theorem KD {x:AK} {st:List Int} {i:Int}:(BS x st i).length=A0 x:=by unfold BS;rw[OO,Zk]
theorem UK {x:AK} {i:Int}:CX (nY x i):=Wx _
theorem Wq {x:AK} {st:List Int} {i:Int}:CX (Wd x st i):=UV UK _
theorem Jk {x:AK} {st:List Int} {i:Int}:CX (BS x st i):=QP Wq _
theorem AA {x:AK} (h:Al x=true):(0≤x.1∧x.1≤20∧x.2.1.length≤12∧x.2.2.1.length≤300∧x.2.2.2.length≤16∧Bw x=1+x.1+x.2.1.length+x.2.2.1.length) ∧
 (∀ s∈x.2.1,Bz s=true)∧(∀ y∈Ay x,0≤y∧y<2*(A0 x:Int)) ∧
 ∀ (k:Nat) (a:Ai),x.2.2.1[k]? = some a→(0≤a.1∧a.1<2*(1+x.1+x.2.1.length+k))∧0≤a.2∧a.2<2*(1+x.1+x.2.1.length+k):=by
 simp only[Al,Bool.and_eq_true,decide_eq_true_eq] at h;obtain⟨⟨⟨h1,h2⟩,h3⟩,h4⟩:=h;have hp:=Lp h1;refine⟨hp,zz8.1 h2,fun y hy=>?_,fun k a ha=>?_⟩
 · have:=AP.1 (zz8.1 h3 y hy);unfold A0;omega
 · cases hf:Dv (1+x.1+x.2.1.length+k) a with
   | false=>rw[Jz ha hf] at h4;cases h4
   | true =>
     simp only[Dv,Bool.and_eq_true] at hf;have a1:=AP.1 hf.1;have a2:=AP.1 hf.2;omega
theorem T3 (x:AK) (h1:0≤x.1∧x.1≤20):Bx Tryz.prog 93 [Ge x] (.d (.int .i64 (1+x.1))):=by
 refine A5 (by kernel_rfl) Tryz.func93 rfl rfl rfl ?_;have w1:IntKind.i64.wrap (1+x.1)=1+x.1:=Ad (by omega) (by omega);simp[Ao,w1]
theorem Px (x:AK) (st:List Int) (inp:Int) (hx:Cz 1048576 x) (hok:Al x=true) (hs:st.length=x.2.1.length):Bx Tryz.prog 65 [Ge x,ints st,.d (.int .i64 inp)] (ints (BS x st inp)):=by
 obtain⟨⟨n1,n2,n3,n4,n5,n6⟩,-,-,o3⟩:=AA hok;have hN:A0 x=1+x.1.toNat+x.2.1.length+x.2.2.1.length:=rfl;have hNi:(1+x.1+(x.2.1.length:Int)+(x.2.2.1.length:Int)).toNat=A0 x:=by omega
 refine A5 (by kernel_rfl) Tryz.func65 rfl rfl rfl ?_;simp[Ao];refine Ab (Df x ⟨n1,n2⟩ n3 n4) ?_;simp;refine⟨⟨by omega,by omega⟩,?_⟩;rw[hNi];refine AB [false,true,true,true,false,false,false,true,true] (fun k:Nat=>k≤x.1.toNat) (fun k:Nat=>[(8,.d (.int .i64 k))]) (fun k:Nat=>[(1,.arr 3 true ((Tq (A0 x) inp k).map (e1 AC)))]) (fun k:Nat=>x.1.toNat - k) 0 ?_ ?_ ?_
 · simp
 · exact⟨[0,1],by simp[Tq]⟩
 · rintro I S μ hI hS hμ k hk;obtain⟨lv,hlv⟩:∃ lv,lv=Tq (A0 x) inp k:=⟨_,rfl⟩;have hlen:lv.length=A0 x:=by rw[hlv,OU]
   have hnext:Tq (A0 x) inp (k+1)=lv.set (1+k) (Uz inp k):=by rw[hlv];rfl
   rw[←hlv];by_cases hlt:k<x.1.toNat
   · have w2:IntKind.i64.wrap ((k:Int)+1)=(k:Int)+1:=Ad (by omega) (by omega);have w3:IntKind.i64.wrap (1+(k:Int))=1+(k:Int):=Ad (by omega) (by omega);have wk:IntKind.u64.wrap (k:Int)=k:=M8 (by omega) (by omega);have ht:(1+(k:Int)).toNat=1+k:=by omega
     have hr:lv[1+k]? = some (A1 lv (1+k)):=by rw[←ht];exact B8 (by omega)
     simp[show (k:Int)<x.1 by omega,w3,wk,Ze,ht,hr,show ¬ 1+(k:Int)<0 by omega,w2];exact Ae hI hS hμ (k+1) (by omega) (by omega) ⟨[0,1],by simp[hnext,←lJ]⟩
   · have hk':k=x.1.toNat:=by omega
     have hv:lv=nY x inp:=by rw[hlv,hk'];rfl
     clear hlv hnext hI hS hμ;have hb0:CX lv:=by rw[hv];exact UK
     simp[show ¬ ((k:Int)<x.1) by omega];refine AB [false,false,false,true,false,false,false,true,false,false,false,false,false,false,false,false,false,false,false,false,false,false,false,false,false,false,false,false,false,false,false,true,true,true] (fun k:Nat=>k≤st.length) (fun k:Nat=>[(33,.d (.int .i64 k))]) (fun k:Nat=>[(1,.arr 3 true ((Zb lv (1+x.1.toNat) st k).map (e1 AC)))]) (fun k:Nat=>st.length - k) 0 ?_ ?_ ?_
     · simp
     · exact⟨[0,1],by simp[Zb]⟩
     rintro I S μ hI hS hμ k hk;obtain⟨lw,hlw⟩:∃ lw,lw=Zb lv (1+x.1.toNat) st k:=⟨_,rfl⟩;have hlen2:lw.length=A0 x:=by rw[hlw,O6,hlen]
     by_cases hlt:k<st.length
     · have hx1:st[k]? = some st[k]:=zz0 hlt;have hnext:Zb lv (1+x.1.toNat) st (k+1)=lw.set (1+x.1.toNat+k) (st[k] % 2):=by rw[hlw];simp[Zb,hx1]
       rw[←hlw];generalize st[k]=v at *;have w2:IntKind.i64.wrap ((k:Int)+1)=(k:Int)+1:=Ad (by omega) (by omega);have w3:IntKind.i64.wrap (1+x.1+(k:Int))=1+x.1+(k:Int):=Ad (by omega) (by omega);have ht:(1+x.1+(k:Int)).toNat=1+x.1.toNat+k:=by omega
       have hr:lw[1+x.1.toNat+k]? = some (A1 lw (1+x.1+k)):=by rw[←ht];exact B8 (by omega)
       have hd:decide (k<st.length)=true:=zz2 hlt;simp[hd,hx1];refine Ab (T3 x ⟨n1,n2⟩) ?_;simp[w3,CC,ht,hr,show ¬ 1+x.1+(k:Int)<0 by omega,w2];exact Ae hI hS hμ (k+1) (by omega) (by omega) ⟨[0,1],by simp[hnext,←lJ]⟩
     · have hk':k=st.length:=by omega
       subst hk';have hv2:lw=Wd x st inp:=by rw[hlw,hv];rfl
       rw[←hlw];clear hlw hI hS hμ;have hb1:CX lw:=by rw[hv2];exact Wq
       simp[hlt];refine AB [false,false,false,true,false,false,false,true,false,false,false,false,false,false,false,false,false,false,false,false,false,false,false,false,false,false,false,false,false,false,false,false,false,false,false,false,false,false,false,false,false,false,false,false,false,false,false,false,true,true,true] (fun k:Nat=>k≤x.2.2.1.length) (fun k:Nat=>[(50,.d (.int .i64 k))]) (fun k:Nat=>[(1,.arr 3 true ((SY lw (1+x.1.toNat+x.2.1.length) x.2.2.1 k).map (e1 AC)))]) (fun k:Nat=>x.2.2.1.length - k) 0 ?_ ?_ ?_
       · simp
       · exact⟨[0,1],by simp[SY]⟩
       rintro I S μ hI hS hμ k hk;obtain⟨lu,hlu⟩:∃ lu,lu=SY lw (1+x.1.toNat+x.2.1.length) x.2.2.1 k:=⟨_,rfl⟩;have hlen3:lu.length=A0 x:=by rw[hlu,OO,hlen2]
       have hb2:CX lu:=by rw[hlu];exact QP hb1 k
       by_cases hlt:k<x.2.2.1.length
       · have hx1:x.2.2.1[k]? = some x.2.2.1[k]:=zz0 hlt;have hL:(At x.2.2.1[k]).length=2:=rfl;have hnext:SY lw (1+x.1.toNat+x.2.1.length) x.2.2.1 (k+1)=lu.set (1+x.1.toNat+x.2.1.length+k) (Bc lu x.2.2.1[k].1*Bc lu x.2.2.1[k].2):=by rw[hlu];simp[SY,hx1]
         have ho:=o3 k _ hx1;rw[←hlu];generalize x.2.2.1[k]=s at *;have w2:IntKind.i64.wrap ((k:Int)+1)=(k:Int)+1:=Ad (by omega) (by omega);have w3:IntKind.i64.wrap (1+x.1+(x.2.1.length:Int)+(k:Int))=1+x.1+(x.2.1.length:Int)+(k:Int):=Ad (by omega) (by omega);have ht:(1+x.1+(x.2.1.length:Int)+(k:Int)).toNat=1+x.1.toNat+x.2.1.length+k:=by omega
         have hr:lu[1+x.1.toNat+x.2.1.length+k]? = some (A1 lu (1+x.1+x.2.1.length+k)):=by rw[←ht];exact B8 (by omega)
         have hm:CR (Bc lu s.1) (Bc lu s.2)=Bc lu s.1*Bc lu s.2:=RY (Dw _ _) (Dw _ _);have hd:decide (k<x.2.2.1.length)=true:=zz2 hlt;simp[hd,hx1,hL,At];refine⟨by kernel_rfl,?_⟩;refine Ab (BF x ⟨n1,n2⟩ n3) ?_;simp[w3];refine Ab (Jb lu s.1 hb2 (by omega) (by omega)) ?_;simp;refine Ab (Jb lu s.2 hb2 (by omega) (by omega)) ?_;simp[hm,ht,hr,show ¬ 1+x.1+(x.2.1.length:Int)+(k:Int)<0 by omega,w2];exact Ae hI hS hμ (k+1) (by omega) (by omega) ⟨[0,1],by simp[hnext,←lJ]⟩
       · have hk':k=x.2.2.1.length:=by omega
         subst hk';have hv3:lu=BS x st inp:=by rw[hlu,hv2];rfl
         rw[←hlu];simp[hlt,hv3]
end Go.Proofs.YtnjedabjbeipeaaGreat
