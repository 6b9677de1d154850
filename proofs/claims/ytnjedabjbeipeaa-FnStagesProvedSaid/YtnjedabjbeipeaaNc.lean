/-
  The walker's facts for simp.
  Conditions: none.
-/
import Derived.Test.YtnjedabjbeipeaaQa
namespace Go.Proofs.Ytnjedabjbeipeaa
open Go.RowKit Go.ChangeShapes Go.WideShapes
set_option linter.unusedSimpArgs false
set_option linter.unusedVariables false
set_option maxRecDepth 100000
set_option maxHeartbeats 10000000
attribute [simp ↓] Cn B0 OW Nv
attribute [simp] U7 T1 TZ GV iH OB Wp O2 J5 RL fI Jd
attribute [simp] Gp Kg Et IJ FT gN NI Tu mG mK Q6 Ic
attribute [simp] D7 Zk Uv TK aX Zl Sv LS bA XN Qc XF
attribute [simp] XO TR Tf QX aN Ss Hd Fk Fw Sr DS XI
attribute [simp] WB Wv WS Xa Xj WR Pu eI Ul Dh nU Pi
attribute [simp] jE nG AAT vU zZ zW vJ cZ kW pL Yw Ca
attribute [simp] EB LO HC Hw St.get St.put St.eval GN evalT gV VF eE
attribute [simp] cN jS jT mU iU UO UK gW Ro L9 jK iA
attribute [simp] iN jV Ud jR UD aH Zd zB KO Jx GO JK
attribute [simp] R0 Ik HX CK OL WP GT IU Q5 DU Ba V.cell
attribute [simp] H8 Ds A9 kill CT BG I6 Ge kX Jl sets B3
attribute [simp] e1 e2 e3 e4 Az EV mS Zi GS QD cY Va
attribute [simp] Xm QK WT Ze IK Oi Zf Sf vlV jM FA inst
attribute [simp] Ht Ld FO K4 Q8 Hy TD Io JW Ni Le N3
attribute [simp] Ed nW Hn oE pN To tT Sw SY Mf frame W4
attribute [simp] V9 Vb Bi Ag.live I7 K0 Kf aQ bW Mh BJ List.range'_succ
attribute [simp] fV ABu NS leT Zs WM bB Xc HZ iS Xn Kw
attribute [simp] Po Wf aT aI Ww cX KW Mi HK NO Gh DH
attribute [simp] DT AE EY SD Op.operands Call.operands
abbrev Ah:Type:=Int×Int
def Ao (x:Ah):List D:=e2 Az Az x
abbrev AB:Type:=Int×List Dl×List Ah×List Int
def AL (s a:TypeId) (x:AB):List D:=e4 Az (B3 s A7) (B3 a Ao) (B3 3 (e1 Az)) x
def DQ (m:Nat) (x:AB):Prop:=x.2.1.length≤m∧(∀ s∈x.2.1,s.2.2.length≤m)∧x.2.2.1.length≤m∧x.2.2.2.length≤m
abbrev N7 (x:AB):X:=.agg (AL 31 60 x)
def CW (x:AB):Int:=if rng x.1 0 20=true∧x.2.1.length≤12∧x.2.2.1.length≤300∧x.2.2.2.length≤16 then 1+x.1+x.2.1.length+x.2.2.1.length else 0
theorem BL (x:AB) (h1:0≤x.1∧x.1≤20) (h2:x.2.1.length≤12) (h3:x.2.2.1.length≤300) :
 CI Try.prog 63 [N7 x] (.d (.int .i64 (1+x.1+x.2.1.length+x.2.2.1.length))):=by
 refine BD (by kernel_rfl) Try.func63 rfl rfl rfl ?_;have w1:IntKind.i64.wrap (1+x.1)=1+x.1:=Af (by omega) (by omega);have w2:IntKind.i64.wrap (1+x.1+x.2.1.length)=1+x.1+x.2.1.length:=Af (by omega) (by omega);have w3:IntKind.i64.wrap (1+x.1+x.2.1.length+x.2.2.1.length)=1+x.1+x.2.1.length+x.2.2.1.length:=Af (by omega) (by omega);simp[AL,w1,w2,w3]
theorem Pp (x:AB):CI Try.prog 89 [N7 x] (.d (.int .i64 (CW x))):=by
 refine BD (by kernel_rfl) Try.func89 rfl rfl rfl ?_;simp[AL];refine Ab (CU _ _ _) ?_
 skip
 unfold CW;rcases ACS (rng x.1 0 20) with h1|h1
 case inr=>simp[h1]
 by_cases h2:x.2.1.length≤12
 case neg=>simp[h1,h2,show (12:Int)<x.2.1.length by omega]
 by_cases h3:x.2.2.1.length≤300
 case neg=>simp[h1,h2,h3,show ¬ (12:Int)<x.2.1.length by omega,show (300:Int)<x.2.2.1.length by omega]
 by_cases h4:x.2.2.2.length≤16
 case neg=>simp[h1,h2,h3,h4,show ¬ (12:Int)<x.2.1.length by omega,show ¬ (300:Int)<x.2.2.1.length by omega,show (16:Int)<x.2.2.2.length by omega]
 simp[h1,h2,h3,h4,show ¬ (12:Int)<x.2.1.length by omega,show ¬ (300:Int)<x.2.2.1.length by omega,show ¬ (16:Int)<x.2.2.2.length by omega];refine Ab (BL x (by simpa [rng] using h1) h2 h3) ?_
 skip
 simp
theorem Pq {x:AB} (h:CW x≠0):0≤x.1∧x.1≤20∧x.2.1.length≤12∧x.2.2.1.length≤300∧x.2.2.2.length≤16∧CW x=1+x.1+x.2.1.length+x.2.2.1.length:=by
 unfold CW at h ⊢;split
 · rename_i hc;have:=AN.1 hc.1;exact⟨this.1,this.2,hc.2.1,hc.2.2.1,hc.2.2.2,rfl⟩
 · rename_i hc;rw[if_neg hc] at h;exact absurd rfl h
theorem AW (x:AB) (h1:0≤x.1∧x.1≤20) (h2:x.2.1.length≤12):CI Try.prog 61 [N7 x] (.d (.int .i64 (1+x.1+x.2.1.length))):=by
 refine BD (by kernel_rfl) Try.func61 rfl rfl rfl ?_;have w1:IntKind.i64.wrap (1+x.1)=1+x.1:=Af (by omega) (by omega);have w2:IntKind.i64.wrap (1+x.1+x.2.1.length)=1+x.1+x.2.1.length:=Af (by omega) (by omega);simp[AL,w1,w2]
def isI (n:Int):Prop:=-9223372036854775808≤n∧n≤9223372036854775807
def kG (x:AB) (k:Nat):List Int:=x.2.2.2++((x.2.1.map (·.2.2)).take k).flatten
def At (x:AB):List Int:=x.2.2.2++(x.2.1.map (·.2.2)).flatten
theorem fE {x:AB} {k:Nat} {s:Dl} (h:x.2.1[k]? = some s):kG x (k+1)=kG x k++s.2.2:=by
 unfold kG;rw[Bh (x:=s.2.2) (by rw[ACF,h];rfl),ACK,ACY];simp
theorem HN {x:AB}:kG x x.2.1.length=At x:=by
 unfold kG At;rw[ACe (by simp)]
theorem KP {ls:List (List Int)} {M:Nat} (h:∀ l∈ls,l.length≤M):∀ k:Nat,((ls.take k).flatten).length≤k*M
 | 0=>by simp
 | k+1=>by
   have ih:=KP h k
   cases hk:ls[k]? with
   | none =>
     have:=List.getElem?_eq_none_iff.1 hk;rw[ACe (by omega)];rw[ACe (by omega)] at ih;rw[Nat.succ_mul];omega
   | some l =>
     rw[Bh hk,ACK,ACg,Nat.succ_mul];have:=h l (zz6 hk);have e:[l].flatten.length=l.length:=by simp
     omega
theorem HS {x:AB} {k M:Nat} (h:∀ s∈x.2.1,s.2.2.length≤M):(kG x k).length≤x.2.2.2.length+k*M:=by
 unfold kG;rw[ACg];have:=KP (ls:=x.2.1.map (·.2.2)) (M:=M) (by intro l hl;obtain⟨s,hs,rfl⟩:=ACP.1 hl;exact h s hs) k;omega
theorem Lv (xs:List Int) (h:xs.length≤1048576):CI Try.prog 81 [.d (B3 3 (e1 Az) xs)] (.d (B3 3 (e1 Az) xs)):=by
 refine BD (by kernel_rfl) Try.func81 rfl rfl rfl ?_;simp;refine Aw AX rfl (by simp) rfl (by simp) (by simp) (by first | (simp;done)|(simp;omega)) (by simp[Bp,A4]) ?_;simp
theorem F8 (x:AB) (hx:DQ 1048576 x) (hn:x.2.1.length≤12):CI Try.prog 91 [N7 x] (.d (B3 3 (e1 Az) (At x))):=by
 obtain⟨f1,f2,f3,f5⟩:=hx;refine BD (by kernel_rfl) Try.func91 rfl rfl rfl ?_;simp[AL];refine Ab (Lv _ f5) ?_;simp;refine AY [false,false,false,true,false,false,false,false,false,false,true,true,true] (fun k:Nat=>k≤x.2.1.length) (fun k:Nat=>[(3,.ref 1),(12,.d (.int .i64 k))]) (fun k:Nat=>[(1,.arr 3 true ((kG x k).map (e1 Az)))]) (fun k:Nat=>x.2.1.length - k) 0 ?_ ?_ ?_
 · simp
 · exact⟨[0,1],by simp[kG]⟩
 rintro I S μ hI hS hμ k hk;by_cases hlt:k<x.2.1.length
 · have hx1:x.2.1[k]? = some x.2.1[k]:=zz0 hlt;have hL:(A7 x.2.1[k]).length=3:=rfl;have w2:IntKind.i64.wrap ((k:Int)+1)=(k:Int)+1:=Af (by omega) (by omega);have hl:=f2 _ (AB7 hlt);have hnext:=fE hx1;have hrl:=HS (x:=x) (k:=k) (M:=1048576) f2;generalize x.2.1[k]=s at *;have hd:decide (k<x.2.1.length)=true:=zz2 hlt;simp[hd,hx1,hL,A7];refine Aw AX rfl (by simp) rfl (by simp) (by simp) (by first | (simp;done)|(simp;omega)) (by simp[Bp,A4]) ?_;simp[w2];exact Ae hI hS hμ (k+1) (by omega) (by omega) ⟨[0,3],by simp[hnext]⟩
 · have hk':k=x.2.1.length:=by omega
   subst hk';have hr:kG x x.2.1.length=At x:=HN;simp[hlt,hr]
abbrev ints (xs:List Int):X:=.d (B3 3 (e1 Az) xs)
def Av (lv:List Int) (k:Int):Int:=(lv[k.toNat]?).getD 0
theorem CJ {lv:List Int} {k:Int} (h:0≤k∧k<lv.length):lv[k.toNat]? = some (Av lv k):=by
 unfold Av;rw[zz0 (by omega)];rfl
def Cq (vs:List Int):Prop:=∀ v∈vs,0≤v∧v≤1
theorem G0 {lv:List Int} (h:Cq lv) (k:Int):0≤Av lv k∧Av lv k≤1:=by
 unfold Av
 cases hk:lv[k.toNat]? with
 | none=>simp
 | some v=>exact h v (zz6 hk)
def Ck (vs:List Int):Nat→Int
 | 0=>0
 | k+1=>Ck vs k+(vs[k]?).getD 0*2 ^ k
def BP (vs:List Int):Int:=Ck vs vs.length
theorem Iq {vs:List Int} (h:Cq vs):∀ k,0≤Ck vs k∧Ck vs k<2 ^ k
 | 0=>by simp[Ck]
 | k+1=>by
   have ih:=Iq h k
   have hb:0≤(vs[k]?).getD 0∧(vs[k]?).getD 0≤1:=by
    cases hk:vs[k]? with
    | none=>simp
    | some v=>exact h v (zz6 hk)
   have hp:(2:Int) ^ (k+1)=2 ^ k*2:=Int.pow_succ 2 k;unfold Ck;rcases D6 hb with h0|h0<;>rw[h0,hp]<;>constructor<;>omega
theorem Wm {vs:List Int} {v:Int} {k:Nat} (h:Cq vs) (hx:vs[k]? = some v) (hk:k≤60):dZ (Ck vs k) (IF v k)=Ck vs (k+1):=by
 have hv:=h v (zz6 hx);rw[bY hv (by omega),eH (Iq h k) hv (by omega)];simp[Ck,hx]
theorem FY {α:Type} {f:α→Int} {xs:List α} (h:∀ x∈xs,0≤f x∧f x≤1):Cq (xs.map f):=by
 intro v hv;obtain⟨x,hx,rfl⟩:=ACP.1 hv;exact h x hx
def AF (lv:List Int) (l:Int):Int:=(Av lv (l / 2)+l % 2) % 2
theorem DY (lv:List Int) (l:Int):0≤AF lv l∧AF lv l≤1:=by unfold AF;omega
def KQ (a b:List Int):Bool:=decide (a=b)
theorem WU {a b:List Int} {k:Nat} (hl:a.length=b.length) (hk:k<a.length) (h:a.take k=b.take k) (he:a[k]? = b[k]?):a.take (k+1)=b.take (k+1):=by
 have h1:a[k]? = some a[k]:=zz0 hk;rw[Bh h1,Bh (xs:=b) (he▸h1),h]
theorem SM (a b:List Int) (ha:a.length≤1048576) (hl:a.length=b.length):CI Try.prog 37 [ints a,ints b] (.d (.bool (KQ a b))):=by
 refine BD (by kernel_rfl) Try.func37 rfl rfl rfl ?_;simp[hl];refine AY [true,true,false,false,false,false,false,false,false,false,false,false,true,true] (fun k:Nat=>k≤a.length∧a.take k=b.take k) (fun k:Nat=>[(13,.d (.int .i64 k))]) (fun k:Nat=>[]) (fun k:Nat=>a.length - k) 0 ?_ ?_ ?_
 · simp
 · exact⟨[],by simp⟩
 rintro I S μ hI hS hμ k ⟨hk,ht⟩;by_cases hlt:k<a.length
 · have hx1:a[k]? = some a[k]:=zz0 hlt;have hx2:b[k]? = some (b[k]'(by omega)):=zz0 _;have w2:IntKind.i64.wrap ((k:Int)+1)=(k:Int)+1:=Af (by omega) (by omega);have hnx:a[k]? = b[k]?→a.take (k+1)=b.take (k+1):=WU hl hlt ht
   have hno:a[k]?≠b[k]?→KQ a b=false:=fun h=>by
    cases hs:KQ a b with
    | false=>rfl
    | true=>exact absurd (congrArg (·[k]?) (ACn hs)) h
   rw[hx1,hx2] at hnx hno;generalize a[k]=u at *;generalize b[k]'(by omega)=v at *;have hd:decide (k<a.length)=true:=zz2 hlt;have hd':decide (k<b.length)=true:=zz2 (by omega);by_cases he:u=v
   · subst he;simp[hd,hd',hx1,hx2,w2];exact⟨by kernel_rfl,Ae hI hS hμ (k+1) ⟨by omega,hnx rfl⟩ (by omega) ⟨[],by simp⟩⟩
   · have hn:=hno (by simpa using he);simp[hd,hd',hx1,hx2,he,hn];show _=true
     kernel_rfl
 · have hk':k=a.length:=by omega
   have hs:KQ a b=true:=by
    rw[hk',List.take_length,hl,List.take_length] at ht;simpa [KQ] using ht
   simp[hlt,show ¬ k<b.length by omega,hs]
theorem ABr {lv:List Int} {i:Nat} {v:Int}:(lv.map (e1 Az)).set i [.int .i64 v]=(lv.set i v).map (e1 Az):=by rw[List.map_set];rfl
theorem M3 {lv:List Int} {i:Nat} {v:Int} (h:Cq lv) (hv:0≤v∧v≤1):Cq (lv.set i v):=by
 intro y hy;rcases List.mem_or_eq_of_mem_set hy with h1|rfl
 · exact h y h1
 · exact hv
def WV (N:Nat) (inp:Int):Nat→List Int
 | 0=>List.replicate N 0
 | k+1=>(WV N inp k).set (1+k) (GF inp k)
def nP (v0:List Int) (f:Nat) (st:List Int):Nat→List Int
 | 0=>v0
 | k+1=>(nP v0 f st k).set (f+k) ((st[k]?).getD 0 % 2)
theorem TI {N:Nat} {i:Int}:∀ k,(WV N i k).length=N
 | 0=>by simp[WV]
 | k+1=>by simp[WV,TI k]
theorem TS {v0:List Int} {f:Nat} {st:List Int}:∀ k,(nP v0 f st k).length=v0.length
 | 0=>rfl
 | k+1=>by simp[nP,TS k]
theorem U6 {N:Nat} {i:Int}:∀ k,Cq (WV N i k)
 | 0=>by intro y hy;have:=List.eq_of_mem_replicate hy;omega
 | k+1=>M3 (U6 k) (Qg _ _)
theorem Vq {v0:List Int} {f:Nat} {st:List Int} (h:Cq v0):∀ k,Cq (nP v0 f st k)
 | 0=>h
 | k+1=>M3 (Vq h k) (by omega)
theorem nR {a b:Int} (ha:0≤a∧a≤1) (hb:0≤b∧b≤1):0≤a*b∧a*b≤1:=by
 rcases D6 ha with rfl|rfl<;>simp<;>omega
theorem As {P:Program} {m:Mode} {Q:Exit→St→Prop} {c:Code} {T:List V} {sl0:List Ag} {ι:Type} (mask:List Bool) (I:ι→Prop) (upd:ι→List (Nat×V)) (fsl:ι→List Ag→List Ag) (μ:ι→Nat) (i0:ι) (h0:I i0)
 (hle:Le m ⟨T,sl0⟩ ⟨sets (Jl mask T) (upd i0),fsl i0 sl0⟩)
 (hr:∀ (I':ι→Prop) (S':ι→St) (μ':ι→Nat),(∀ i,I' i↔I i)→(∀ i,S' i=⟨sets (Jl mask T) (upd i),fsl i sl0⟩)→(∀ i,μ' i=μ i)→∀ i,I i→Ib P m c (HC (UL m I' S' μ' i) Q) ⟨sets (Jl mask T) (upd i),fsl i sl0⟩):Ib P m (.loop c) Q ⟨T,sl0⟩ :=
 VH I (fun i=>⟨sets (Jl mask T) (upd i),fsl i sl0⟩) μ i0 h0 hle hr
def D9 (k s:Nat):V:=if k=0 then .nil 3 else .ref s
def Ea (k:Nat) (xs:List Int) (sl:List Ag):List Ag:=if k=0 then sl else sl++[.arr 3 true (xs.map (e1 Az))]
theorem F5 {s:Dl} (h:Dn s=true):s.2.2.length≤4:=by
 unfold Dn at h;split at h
 · simp at h;omega
 · split at h
   · simp at h;omega
   · cases h
def Ej (n:Int) (a:Ah):Bool:=rng a.1 0 (2*n - 1)&&rng a.2 0 (2*n - 1)
def BO (f:Int):Nat→List Ah→Bool
 | _,[]=>true
 | k,x::xs=>Ej (f+k) x&&BO f (k+1) xs
theorem IZ {f:Int}:∀ {xs:List Ah} {k j:Nat},BO f j xs=(BO f j (xs.take k)&&BO f (j+k) (xs.drop k))
 | [],k,j=>by simp[BO]
 | x::xs,0,j=>by simp[BO]
 | x::xs,k+1,j=>by
   simp only[List.take_succ_cons,List.drop_succ_cons,BO];rw[IZ (xs:=xs) (k:=k),Bool.and_assoc,show j+1+k=j+(k+1) by omega]
theorem GY {f:Int} {xs:List Ah} {k:Nat} {x:Ah} (hx:xs[k]? = some x):BO f 0 (xs.take (k+1))=(BO f 0 (xs.take k)&&Ej (f+k) x):=by
 rw[IZ (xs:=xs.take (k+1)) (k:=k),Bh hx];have hk:(xs.take k).length=k:=by have:=(zz1.1 hx).1;simp;omega
 rw[ACN (by omega),ACe (by omega),List.drop_append_of_le_length (by omega),List.drop_of_length_le (by omega)];simp[BO]
theorem NV {f:Int} {xs:List Ah} {k:Nat} {x:Ah} (hx:xs[k]? = some x) (h:Ej (f+k) x=false):BO f 0 xs=false:=by
 rw[IZ (k:=k+1),GY hx,h];simp
def Aj (x:AB):Bool:=decide (CW x≠0)&&x.2.1.all Dn&&MN (At x) (2*CW x)&&BO (1+x.1+x.2.1.length) 0 x.2.2.1
theorem FU (x:AB) (hx:DQ 1048576 x):CI Try.prog 41 [N7 x] (.d (.bool (Aj x))):=by
 have hx':=hx;obtain⟨f1,f2,f3,f5⟩:=hx';refine BD (by kernel_rfl) Try.func41 rfl rfl rfl ?_;simp[AL];refine Ab (Pp x) ?_;simp;refine⟨fun h=>by simp[Aj,h],fun hn=>?_⟩;obtain⟨n1,n2,n3,n4,n5,n6⟩:=Pq hn;refine AY [false,true,false,true,false,false,false,false,false,false,false,false,false,false,false,false,true,true,true] (fun k:Nat=>k≤x.2.1.length∧(x.2.1.take k).all Dn=true) (fun k:Nat=>[(18,.d (.int .i64 k))]) (fun k:Nat=>[]) (fun k:Nat=>x.2.1.length - k) 0 ?_ ?_ ?_
 · exact⟨by simp,rfl⟩
 · exact⟨[0],by simp⟩
 rintro I S μ hI hS hμ k ⟨hk,ha⟩;by_cases hlt:k<x.2.1.length
 · have hx1:x.2.1[k]? = some x.2.1[k]:=zz0 hlt;have hL:(A7 x.2.1[k]).length=3:=rfl;have w2:IntKind.i64.wrap ((k:Int)+1)=(k:Int)+1:=Af (by omega) (by omega);generalize x.2.1[k]=s at *;have hd:decide (k<x.2.1.length)=true:=zz2 hlt;simp[hd,hx1,hL,A7];refine Ab (bG s) ?_;simp;rcases ACS (Dn s) with h1|h1
   case inr=>simp[h1,Aj,In (p:=Dn) hx1 h1]
   simp[h1,w2];exact Ae hI hS hμ (k+1) ⟨by omega,by rw[Fu hx1,ha,h1];rfl⟩ (by omega) ⟨[0],by simp⟩
 have hk':k=x.2.1.length:=by omega
 rw[hk',List.take_length] at ha;simp[hlt];refine Ab (F8 x hx n3) ?_;simp;have hrl:=HS (x:=x) (k:=x.2.1.length) (M:=1048576) f2;rw[HN] at hrl;generalize hR:At x=R at *;refine AY [false,true,false,true,false,false,false,false,false,false,false,false,false,false,false,false,false,false,false,false,false,false,false,false,false,false,false,true,true,true] (fun k:Nat=>k≤R.length∧(R.take k).all (fun y=>rng y 0 (2*CW x - 1))=true) (fun k:Nat=>[(29,.d (.int .i64 k))]) (fun k:Nat=>[]) (fun k:Nat=>R.length - k) 0 ?_ ?_ ?_
 · exact⟨by simp,rfl⟩
 · exact⟨[0,1],by simp⟩
 clear hI hS hμ;rintro I S μ hI hS hμ k ⟨hk,hb⟩;by_cases hlt:k<R.length
 · have hx1:R[k]? = some R[k]:=zz0 hlt;have w2:IntKind.i64.wrap ((k:Int)+1)=(k:Int)+1:=Af (by omega) (by omega);have w3:IntKind.i64.wrap (2*CW x)=2*CW x:=Af (by omega) (by omega);have w4:IntKind.i64.wrap (2*CW x - 1)=2*CW x - 1:=Af (by omega) (by omega);generalize R[k]=y at *;have hd:decide (k<R.length)=true:=zz2 hlt;simp[hd,hx1,w3,w4];refine Ab (CU _ _ _) ?_;simp;rcases ACS (rng y 0 (2*CW x - 1)) with h1|h1
   case inr=>simp[h1,Aj,MN,hR,In (p:=fun y=>rng y 0 (2*CW x - 1)) hx1 h1]
   simp[h1,w2];exact Ae hI hS hμ (k+1) ⟨by omega,by rw[Fu hx1,hb,h1];rfl⟩ (by omega) ⟨[0,1],by simp⟩
 have hk':k=R.length:=by omega
 rw[hk',List.take_length] at hb;have hbB:MN R (2*CW x)=true:=hb;simp[hlt];refine AY [false,true,false,false,false,false,false,false,false,false,false,false,false,false,false,false,false,false,false,false,false,false,false,false,false,false,false,false,false,false,false,false,false,false,false,false,false,false,false,false,false,true,true,true] (fun k:Nat=>k≤x.2.2.1.length∧BO (1+x.1+x.2.1.length) 0 (x.2.2.1.take k)=true) (fun k:Nat=>[(43,.d (.int .i64 k))]) (fun k:Nat=>[]) (fun k:Nat=>x.2.2.1.length - k) 0 ?_ ?_ ?_
 · exact⟨by simp,rfl⟩
 · exact⟨[0,1],by simp⟩
 clear hI hS hμ;rintro I S μ hI hS hμ k ⟨hk,hc⟩;by_cases hlt:k<x.2.2.1.length
 · have hx1:x.2.2.1[k]? = some x.2.2.1[k]:=zz0 hlt;have hL:(Ao x.2.2.1[k]).length=2:=rfl;have w2:IntKind.i64.wrap ((k:Int)+1)=(k:Int)+1:=Af (by omega) (by omega);have w3:IntKind.i64.wrap (1+x.1+x.2.1.length+k)=1+x.1+x.2.1.length+k:=Af (by omega) (by omega);have w4:IntKind.i64.wrap (2*(1+x.1+x.2.1.length+k))=2*(1+x.1+x.2.1.length+k):=Af (by omega) (by omega);have w5:IntKind.i64.wrap (2*(1+x.1+x.2.1.length+k) - 1)=2*(1+x.1+x.2.1.length+k) - 1:=Af (by omega) (by omega);generalize x.2.2.1[k]=s at *;have hz:Ej (1+x.1+x.2.1.length+k) s=false→BO (1+x.1+x.2.1.length) 0 x.2.2.1=false:=NV hx1;have hd:decide (k<x.2.2.1.length)=true:=zz2 hlt;simp[hd,hx1,hL,Ao];refine Ab (AW x ⟨n1,n2⟩ n3) ?_;simp[w3,w4,w5];refine Ab (CU _ _ _) ?_;simp;rcases ACS (rng s.1 0 (2*(1+x.1+x.2.1.length+k) - 1)) with h1|h1
   case inr=>simp[h1,Aj,hz (by simp[Ej,h1])]
   simp[h1];refine Ab (CU _ _ _) ?_;simp;rcases ACS (rng s.2 0 (2*(1+x.1+x.2.1.length+k) - 1)) with h2|h2
   case inr=>simp[h2,Aj,hz (by simp[Ej,h2])]
   simp[h2,w2];exact Ae hI hS hμ (k+1) ⟨by omega,by rw[GY hx1,hc];simp[Ej,h1,h2]⟩ (by omega) ⟨[0,1],by simp⟩
 · have hk':k=x.2.2.1.length:=by omega
   rw[hk',List.take_length] at hc;simp[hlt,Aj,ha,hR,hbB,hc,hn]
end Go.Proofs.Ytnjedabjbeipeaa
