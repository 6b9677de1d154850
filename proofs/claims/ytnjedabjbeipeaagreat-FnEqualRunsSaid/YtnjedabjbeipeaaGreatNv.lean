/-
  Values of nodes, and numbers of bits; small contracts, by abstract walks.
  Conditions: those typed in each theorem.
-/
import Derived.Test.YtnjedabjbeipeaaGreatNd
namespace Go.Proofs.YtnjedabjbeipeaaGreat
open Go.RowKit Go.ChangeShapes Go.WideShapes
set_option linter.unusedSimpArgs false
set_option linter.unusedVariables false
set_option maxRecDepth 100000
set_option maxHeartbeats 10000000
abbrev ints (xs:List Int):X:=.d (Dr 3 (e1 AC) xs)
def A3 (lv:List Int) (k:Int):Int:=(lv[k.toNat]?).getD 0
theorem Cc {lv:List Int} {k:Int} (h:0≤k∧k<lv.length):lv[k.toNat]? = some (A3 lv k):=by
 unfold A3;rw[A1 (by omega)];rfl
def C5 (vs:List Int):Prop:=∀ v∈vs,0≤v∧v≤1
theorem K9 {lv:List Int} (h:C5 lv) (k:Int):0≤A3 lv k∧A3 lv k≤1:=by
 unfold A3
 cases hk:lv[k.toNat]? with
 | none=>simp
 | some v=>exact h v (D4 hk)
def C1 (vs:List Int):Nat→Int
 | 0=>0
 | k+1=>C1 vs k+(vs[k]?).getD 0*2 ^ k
def Hp (vs:List Int):Int:=C1 vs vs.length
theorem J4 {vs:List Int} (h:C5 vs):∀ k,0≤C1 vs k∧C1 vs k<2 ^ k
 | 0=>by simp[C1]
 | k+1=>by
   have ih:=J4 h k
   have hb:0≤(vs[k]?).getD 0∧(vs[k]?).getD 0≤1:=by
    cases hk:vs[k]? with
    | none=>simp
    | some v=>exact h v (D4 hk)
   have hp:(2:Int) ^ (k+1)=2 ^ k*2:=Int.pow_succ 2 k;unfold C1;rcases EI hb with h0|h0<;>rw[h0,hp]<;>constructor<;>omega
theorem Vv {vs:List Int} {v:Int} {k:Nat} (h:C5 vs) (hx:vs[k]? = some v) (hk:k≤60):Yq (C1 vs k) (ES v k)=C1 vs (k+1):=by
 have hv:=h v (D4 hx);rw[Nx hv (by omega),jQ (J4 h k) hv (by omega)];simp[C1,hx]
theorem Sx {vs:List Int} {v:Int} {k:Nat} (h:C5 vs) (hx:vs[k]? = some v) (hk:k≤60):IntKind.i64.wrap (C1 vs k+ES v k)=C1 vs (k+1):=by
 have hv:=h v (D4 hx);rw[Nx hv (by omega)];have e:C1 vs k+v*2 ^ k=C1 vs (k+1):=by simp[C1,hx]
 rw[e];have:=J4 h (k+1);have hp:=XI (k:=k+1) (n:=61) (by omega);exact Ad (by omega) (by omega)
theorem M7 {α:Type} {f:α→Int} {xs:List α} (h:∀ x∈xs,0≤f x∧f x≤1):C5 (xs.map f):=by
 intro v hv;obtain⟨x,hx,rfl⟩:=CE.1 hv;exact h x hx
def Be (lv:List Int) (l:Int):Int:=(A3 lv (l / 2)+l % 2) % 2
theorem DF (lv:List Int) (l:Int):0≤Be lv l∧Be lv l≤1:=by unfold Be;omega
def X8 (lv:List Int) (xs:List Int):Prop:=∀ y∈xs,0≤y∧y<2*lv.length
theorem Jo (lv:List Int) (l:Int) (hl:C5 lv) (hn:0≤l∧l<2*lv.length) (hlv:lv.length≤1048576):BA Tryz.prog 94 [ints lv,.d (.int .i64 l)] (.d (.int .i64 (Be lv l))):=by
 refine A6 (by kernel_rfl) Tryz.func94 rfl rfl rfl ?_;have hq:=N1 hn.1 (by omega);have hr:=Cc (lv:=lv) (k:=l / 2) (by omega);have hb:=K9 hl (l / 2);have hx:Bm (A3 lv (l / 2)) (l % 2)=Be lv l:=by rw[Tq hb (by omega)];rfl
 simp[hq,hr,show ¬ l / 2<0 by omega,CD,hx]
theorem PJ (lv:List Int) (l:Int) (hl:C5 lv) (hn:0≤l∧l<2*lv.length) (hlv:lv.length≤1048576):BA Tryz.prog 109 [ints lv,.d (.int .i64 l)] (.d (.int .i64 (Be lv l))):=by
 refine A6 (by kernel_rfl) Tryz.func109 rfl rfl rfl ?_;have hq:=N1 hn.1 (by omega);have hr:=Cc (lv:=lv) (k:=l / 2) (by omega);have hb:=K9 hl (l / 2);have hx:Bm (A3 lv (l / 2)) (l % 2)=Be lv l:=by rw[Tq hb (by omega)];rfl
 simp[hq,hr,show ¬ l / 2<0 by omega,CD,hx]
theorem HF (lv xs:List Int) (hl:C5 lv) (hn:X8 lv xs) (hx:xs.length≤16) (hlv:lv.length≤1048576):BA Tryz.prog 67 [ints lv,ints xs] (.d (.int .i64 (Hp (xs.map (Be lv))))):=by
 obtain⟨vs,hvs⟩:∃ vs,vs=xs.map (Be lv):=⟨_,rfl⟩;have hb:C5 vs:=by rw[hvs];exact M7 fun y _=>DF lv y
 have hlen:vs.length=xs.length:=by simp[hvs]
 have hP:Hp vs=C1 vs xs.length:=by rw[Hp,hlen]
 rw[←hvs,hP];refine A6 (by kernel_rfl) Tryz.func67 rfl rfl rfl ?_;simp;refine AB [true,false,false,false,false,true,false,false,true,true,true] (fun k:Nat=>k≤xs.length) (fun k:Nat=>[(5,.d (.int .i64 (C1 vs k))),(10,.d (.int .i64 k))]) (fun k:Nat=>[]) (fun k:Nat=>xs.length - k) 0 ?_ ?_ ?_
 · simp
 · exact⟨[],by simp[C1]⟩
 rintro I S μ hI hS hμ k hk;by_cases hlt:k<xs.length
 · have hx1:xs[k]? = some xs[k]:=A1 hlt;have w2:IntKind.i64.wrap ((k:Int)+1)=(k:Int)+1:=Ad (by omega) (by omega);have hy:=hn _ (Dv hlt);have hv1:vs[k]? = some (Be lv xs[k]):=by rw[hvs,Di,hx1];rfl
   generalize xs[k]=y at *;have hd:decide (k<xs.length)=true:=A8 hlt;have hor:=Vv hb hv1 (by omega);have wk:IntKind.u64.wrap (k:Int)=k:=NM (by omega) (by omega);simp[hd,hx1];refine Ab (Jo lv y hl hy hlv) ?_;simp[wk,hor,w2];exact Ae hI hS hμ (k+1) (by omega) (by omega) ⟨[],by simp⟩
 · have hk':k=xs.length:=by omega
   simp[hlt,hk']
def SW (a b:List Int):Bool:=decide (a=b)
theorem YC {a b:List Int} {k:Nat} (hl:a.length=b.length) (hk:k<a.length) (h:a.take k=b.take k) (he:a[k]? = b[k]?):a.take (k+1)=b.take (k+1):=by
 have h1:a[k]? = some a[k]:=A1 hk;rw[Bb h1,Bb (xs:=b) (he▸h1),h]
theorem mY {lv:List Int} {i:Nat} {v:Int}:(lv.map (e1 AC)).set i [.int .i64 v]=(lv.set i v).map (e1 AC):=by rw[List.map_set];rfl
theorem NR {lv:List Int} {i:Nat} {v:Int} (h:C5 lv) (hv:0≤v∧v≤1):C5 (lv.set i v):=by
 intro y hy;rcases List.mem_or_eq_of_mem_set hy with h1|rfl
 · exact h y h1
 · exact hv
def T9 (N:Nat) (inp:Int):Nat→List Int
 | 0=>List.replicate N 0
 | k+1=>(T9 N inp k).set (1+k) (Xk inp k)
def ZZ (v0:List Int) (f:Nat) (st:List Int):Nat→List Int
 | 0=>v0
 | k+1=>(ZZ v0 f st k).set (f+k) ((st[k]?).getD 0 % 2)
theorem Pk {N:Nat} {i:Int}:∀ k,(T9 N i k).length=N
 | 0=>by simp[T9]
 | k+1=>by simp[T9,Pk k]
theorem Pd {v0:List Int} {f:Nat} {st:List Int}:∀ k,(ZZ v0 f st k).length=v0.length
 | 0=>rfl
 | k+1=>by simp[ZZ,Pd k]
theorem U9 {N:Nat} {i:Int}:∀ k,C5 (T9 N i k)
 | 0=>by intro y hy;have:=List.eq_of_mem_replicate hy;omega
 | k+1=>NR (U9 k) (Yp _ _)
theorem W9 {v0:List Int} {f:Nat} {st:List Int} (h:C5 v0):∀ k,C5 (ZZ v0 f st k)
 | 0=>h
 | k+1=>NR (W9 h k) (by omega)
theorem mV {a b:Int} (ha:0≤a∧a≤1) (hb:0≤b∧b≤1):0≤a*b∧a*b≤1:=by
 rcases EI ha with rfl|rfl<;>simp<;>omega
theorem AJ {P:Program} {m:Mode} {Q:Exit→St→Prop} {c:Code} {T:List V} {sl0:List Ah} {ι:Type} (mask:List Bool) (I:ι→Prop) (upd:ι→List (Nat×V)) (fsl:ι→List Ah→List Ah) (μ:ι→Nat) (i0:ι) (h0:I i0)
 (hle:Le m ⟨T,sl0⟩ ⟨sets (JR mask T) (upd i0),fsl i0 sl0⟩)
 (hr:∀ (I':ι→Prop) (S':ι→St) (μ':ι→Nat),(∀ i,I' i↔I i)→(∀ i,S' i=⟨sets (JR mask T) (upd i),fsl i sl0⟩)→(∀ i,μ' i=μ i)→∀ i,I i→IG P m c (Hc (VE m I' S' μ' i) Q) ⟨sets (JR mask T) (upd i),fsl i sl0⟩):IG P m (.loop c) Q ⟨T,sl0⟩ :=
 Xp I (fun i=>⟨sets (JR mask T) (upd i),fsl i sl0⟩) μ i0 h0 hle hr
def Dh (k s:Nat):V:=if k=0 then .nil 3 else .ref s
def Dg (k:Nat) (xs:List Int) (sl:List Ah):List Ah:=if k=0 then sl else sl++[.arr 3 true (xs.map (e1 AC))]
theorem DP {s:Cx} (h:Bx s=true):s.2.2.length≤4:=by
 unfold Bx at h;split at h
 · simp at h;omega
 · split at h
   · simp at h;omega
   · cases h
def Tk (v0:List Int) (f:Nat) (ns:List Ai):Nat→List Int
 | 0=>v0
 | k+1=>(Tk v0 f ns k).set (f+k) (Be (Tk v0 f ns k) ((ns[k]?).getD (0,0)).1*Be (Tk v0 f ns k) ((ns[k]?).getD (0,0)).2)
theorem Px {v0:List Int} {f:Nat} {ns:List Ai}:∀ k,(Tk v0 f ns k).length=v0.length
 | 0=>rfl
 | k+1=>by simp[Tk,Px k]
theorem Rp {v0:List Int} {f:Nat} {ns:List Ai} (h:C5 v0):∀ k,C5 (Tk v0 f ns k)
 | 0=>h
 | k+1=>NR (Rp h k) (mV (DF _ _) (DF _ _))
def A0 (x:AK):Nat:=1+x.1.toNat+x.2.1.length+x.2.2.1.length
def oV (x:AK) (inp:Int):List Int:=T9 (A0 x) inp x.1.toNat
def VW (x:AK) (st:List Int) (inp:Int):List Int:=ZZ (oV x inp) (1+x.1.toNat) st st.length
def BV (x:AK) (st:List Int) (inp:Int):List Int:=Tk (VW x st inp) (1+x.1.toNat+x.2.1.length) x.2.2.1 x.2.2.1.length
theorem Zl {x:AK} {i:Int}:(oV x i).length=A0 x:=Pk _
theorem Z0 {x:AK} {st:List Int} {i:Int}:(VW x st i).length=A0 x:=by unfold VW;rw[Pd,Zl]
theorem KW {x:AK} {st:List Int} {i:Int}:(BV x st i).length=A0 x:=by unfold BV;rw[Px,Z0]
theorem Vo {x:AK} {i:Int}:C5 (oV x i):=U9 _
theorem Xj {x:AK} {st:List Int} {i:Int}:C5 (VW x st i):=W9 Vo _
theorem JM {x:AK} {st:List Int} {i:Int}:C5 (BV x st i):=Rp Xj _
theorem AA {x:AK} (h:Al x=true):(0≤x.1∧x.1≤20∧x.2.1.length≤12∧x.2.2.1.length≤300∧x.2.2.2.length≤16∧Bz x=1+x.1+x.2.1.length+x.2.2.1.length) ∧
 (∀ s∈x.2.1,Bx s=true)∧(∀ y∈Ay x,0≤y∧y<2*(A0 x:Int)) ∧
 ∀ (k:Nat) (a:Ai),x.2.2.1[k]? = some a→(0≤a.1∧a.1<2*(1+x.1+x.2.1.length+k))∧0≤a.2∧a.2<2*(1+x.1+x.2.1.length+k):=by
 simp only[Al,Bool.and_eq_true,decide_eq_true_eq] at h;obtain⟨⟨⟨h1,h2⟩,h3⟩,h4⟩:=h;have hp:=LV h1;refine⟨hp,GA.1 h2,fun y hy=>?_,fun k a ha=>?_⟩
 · have:=AP.1 (GA.1 h3 y hy);unfold A0;omega
 · cases hf:DI (1+x.1+x.2.1.length+k) a with
   | false=>rw[KI ha hf] at h4;cases h4
   | true =>
     simp only[DI,Bool.and_eq_true] at hf;have a1:=AP.1 hf.1;have a2:=AP.1 hf.2;omega
theorem Up (x:AK) (h1:0≤x.1∧x.1≤20):BA Tryz.prog 93 [GD x] (.d (.int .i64 (1+x.1))):=by
 refine A6 (by kernel_rfl) Tryz.func93 rfl rfl rfl ?_;have w1:IntKind.i64.wrap (1+x.1)=1+x.1:=Ad (by omega) (by omega);simp[Ao,w1]
theorem QR (x:AK) (st:List Int) (inp:Int) (hx:CF 1048576 x) (hok:Al x=true) (hs:st.length=x.2.1.length):BA Tryz.prog 65 [GD x,ints st,.d (.int .i64 inp)] (ints (BV x st inp)):=by
 obtain⟨⟨n1,n2,n3,n4,n5,n6⟩,-,-,o3⟩:=AA hok;have hN:A0 x=1+x.1.toNat+x.2.1.length+x.2.2.1.length:=rfl;have hNi:(1+x.1+(x.2.1.length:Int)+(x.2.2.1.length:Int)).toNat=A0 x:=by omega
 refine A6 (by kernel_rfl) Tryz.func65 rfl rfl rfl ?_;simp[Ao];refine Ab (Do x ⟨n1,n2⟩ n3 n4) ?_;simp;refine⟨⟨by omega,by omega⟩,?_⟩;rw[hNi];refine AB [false,true,true,true,false,false,false,true,true] (fun k:Nat=>k≤x.1.toNat) (fun k:Nat=>[(8,.d (.int .i64 k))]) (fun k:Nat=>[(1,.arr 3 true ((T9 (A0 x) inp k).map (e1 AC)))]) (fun k:Nat=>x.1.toNat - k) 0 ?_ ?_ ?_
 · simp
 · exact⟨[0,1],by simp[T9]⟩
 · rintro I S μ hI hS hμ k hk;obtain⟨lv,hlv⟩:∃ lv,lv=T9 (A0 x) inp k:=⟨_,rfl⟩;have hlen:lv.length=A0 x:=by rw[hlv,Pk]
   have hnext:T9 (A0 x) inp (k+1)=lv.set (1+k) (Xk inp k):=by rw[hlv];rfl
   rw[←hlv];by_cases hlt:k<x.1.toNat
   · have w2:IntKind.i64.wrap ((k:Int)+1)=(k:Int)+1:=Ad (by omega) (by omega);have w3:IntKind.i64.wrap (1+(k:Int))=1+(k:Int):=Ad (by omega) (by omega);have wk:IntKind.u64.wrap (k:Int)=k:=NM (by omega) (by omega);have ht:(1+(k:Int)).toNat=1+k:=by omega
     have hr:lv[1+k]? = some (A3 lv (1+k)):=by rw[←ht];exact Cc (by omega)
     simp[show (k:Int)<x.1 by omega,w3,wk,Zj,ht,hr,show ¬ 1+(k:Int)<0 by omega,w2];exact Ae hI hS hμ (k+1) (by omega) (by omega) ⟨[0,1],by simp[hnext,←mY]⟩
   · have hk':k=x.1.toNat:=by omega
     have hv:lv=oV x inp:=by rw[hlv,hk'];rfl
     clear hlv hnext hI hS hμ;have hb0:C5 lv:=by rw[hv];exact Vo
     simp[show ¬ ((k:Int)<x.1) by omega];refine AB [false,false,false,true,false,false,false,true,false,false,false,false,false,false,false,false,false,false,false,false,false,false,false,false,false,false,false,false,false,false,false,true,true,true] (fun k:Nat=>k≤st.length) (fun k:Nat=>[(33,.d (.int .i64 k))]) (fun k:Nat=>[(1,.arr 3 true ((ZZ lv (1+x.1.toNat) st k).map (e1 AC)))]) (fun k:Nat=>st.length - k) 0 ?_ ?_ ?_
     · simp
     · exact⟨[0,1],by simp[ZZ]⟩
     rintro I S μ hI hS hμ k hk;obtain⟨lw,hlw⟩:∃ lw,lw=ZZ lv (1+x.1.toNat) st k:=⟨_,rfl⟩;have hlen2:lw.length=A0 x:=by rw[hlw,Pd,hlen]
     by_cases hlt:k<st.length
     · have hx1:st[k]? = some st[k]:=A1 hlt;have hnext:ZZ lv (1+x.1.toNat) st (k+1)=lw.set (1+x.1.toNat+k) (st[k] % 2):=by rw[hlw];simp[ZZ,hx1]
       rw[←hlw];generalize st[k]=v at *;have w2:IntKind.i64.wrap ((k:Int)+1)=(k:Int)+1:=Ad (by omega) (by omega);have w3:IntKind.i64.wrap (1+x.1+(k:Int))=1+x.1+(k:Int):=Ad (by omega) (by omega);have ht:(1+x.1+(k:Int)).toNat=1+x.1.toNat+k:=by omega
       have hr:lw[1+x.1.toNat+k]? = some (A3 lw (1+x.1+k)):=by rw[←ht];exact Cc (by omega)
       have hd:decide (k<st.length)=true:=A8 hlt;simp[hd,hx1];refine Ab (Up x ⟨n1,n2⟩) ?_;simp[w3,CD,ht,hr,show ¬ 1+x.1+(k:Int)<0 by omega,w2];exact Ae hI hS hμ (k+1) (by omega) (by omega) ⟨[0,1],by simp[hnext,←mY]⟩
     · have hk':k=st.length:=by omega
       subst hk';have hv2:lw=VW x st inp:=by rw[hlw,hv];rfl
       rw[←hlw];clear hlw hI hS hμ;have hb1:C5 lw:=by rw[hv2];exact Xj
       simp[hlt];refine AB [false,false,false,true,false,false,false,true,false,false,false,false,false,false,false,false,false,false,false,false,false,false,false,false,false,false,false,false,false,false,false,false,false,false,false,false,false,false,false,false,false,false,false,false,false,false,false,false,true,true,true] (fun k:Nat=>k≤x.2.2.1.length) (fun k:Nat=>[(50,.d (.int .i64 k))]) (fun k:Nat=>[(1,.arr 3 true ((Tk lw (1+x.1.toNat+x.2.1.length) x.2.2.1 k).map (e1 AC)))]) (fun k:Nat=>x.2.2.1.length - k) 0 ?_ ?_ ?_
       · simp
       · exact⟨[0,1],by simp[Tk]⟩
       rintro I S μ hI hS hμ k hk;obtain⟨lu,hlu⟩:∃ lu,lu=Tk lw (1+x.1.toNat+x.2.1.length) x.2.2.1 k:=⟨_,rfl⟩;have hlen3:lu.length=A0 x:=by rw[hlu,Px,hlen2]
       have hb2:C5 lu:=by rw[hlu];exact Rp hb1 k
       by_cases hlt:k<x.2.2.1.length
       · have hx1:x.2.2.1[k]? = some x.2.2.1[k]:=A1 hlt;have hL:(At x.2.2.1[k]).length=2:=rfl;have hnext:Tk lw (1+x.1.toNat+x.2.1.length) x.2.2.1 (k+1)=lu.set (1+x.1.toNat+x.2.1.length+k) (Be lu x.2.2.1[k].1*Be lu x.2.2.1[k].2):=by rw[hlu];simp[Tk,hx1]
         have ho:=o3 k _ hx1;rw[←hlu];generalize x.2.2.1[k]=s at *;have w2:IntKind.i64.wrap ((k:Int)+1)=(k:Int)+1:=Ad (by omega) (by omega);have w3:IntKind.i64.wrap (1+x.1+(x.2.1.length:Int)+(k:Int))=1+x.1+(x.2.1.length:Int)+(k:Int):=Ad (by omega) (by omega);have ht:(1+x.1+(x.2.1.length:Int)+(k:Int)).toNat=1+x.1.toNat+x.2.1.length+k:=by omega
         have hr:lu[1+x.1.toNat+x.2.1.length+k]? = some (A3 lu (1+x.1+x.2.1.length+k)):=by rw[←ht];exact Cc (by omega)
         have hm:C0 (Be lu s.1) (Be lu s.2)=Be lu s.1*Be lu s.2:=TG (DF _ _) (DF _ _);have hd:decide (k<x.2.2.1.length)=true:=A8 hlt;simp[hd,hx1,hL,At];refine⟨by kernel_rfl,?_⟩;refine Ab (BL x ⟨n1,n2⟩ n3) ?_;simp[w3];refine Ab (Jo lu s.1 hb2 (by omega) (by omega)) ?_;simp;refine Ab (Jo lu s.2 hb2 (by omega) (by omega)) ?_;simp[hm,ht,hr,show ¬ 1+x.1+(x.2.1.length:Int)+(k:Int)<0 by omega,w2];exact Ae hI hS hμ (k+1) (by omega) (by omega) ⟨[0,1],by simp[hnext,←mY]⟩
       · have hk':k=x.2.2.1.length:=by omega
         subst hk';have hv3:lu=BV x st inp:=by rw[hlu,hv2];rfl
         rw[←hlu];simp[hlt,hv3]
end Go.Proofs.YtnjedabjbeipeaaGreat
