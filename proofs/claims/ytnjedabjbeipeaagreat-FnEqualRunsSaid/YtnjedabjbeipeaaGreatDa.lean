/-
  The walker's facts for simp.
  Conditions: none.
-/
import Derived.Test.YtnjedabjbeipeaaGreatQa
namespace Go.Proofs.YtnjedabjbeipeaaGreat
open Go.RowKit Go.ChangeShapes Go.WideShapes Go.ChangeAt
set_option linter.unusedSimpArgs false
set_option linter.unusedVariables false
set_option maxRecDepth 100000
set_option maxHeartbeats 10000000
attribute [simp ↓] BT BS P0 Ow
attribute [simp] WS MS T6 Fl kZ K9 Wt QG KO ST fK Hy
attribute [simp] FC H4 D0 HP Fg jL Xd T2 nT mH RV IX
attribute [simp] EK bX VA UH eJ cG UU MG Z7 YB PK YD
attribute [simp] YC UL UW RN dZ Ua GP Fd EY T3 D2 Ye
attribute [simp] YQ XW XL XD X9 XA PM kJ WJ Dx pC OI
attribute [simp] pF nN xR zZ zQ AAe AAQ gX oO qD Zn Cs
attribute [simp] E1 MJ G5 HU St.get St.put St.eval GR evalT iB Vc iZ
attribute [simp] gB eW lW mL hY VW Xc fI Ti My lC lT
attribute [simp] gV Mq lL MQ cC cS wL Ks Ko Ho Kl Sx
attribute [simp] IK Io C6 Qh iY Hp Jp RH Ew Bi V.cell Iy
attribute [simp] DV Bg kill CS B0 JB GW mU JP sets Dt e1
attribute [simp] e2 e3 e4 AC CZ nR dR GB PN kU WO YM
attribute [simp] RO Yk cL JI O2 cN Sw vlV gD Ga inst HW
attribute [simp] L3 GG LU Ns GE O5 Hr Iq Nn Le OT EQ
attribute [simp] pA Ib pD pX TW sE Um TV Mk frame Yt We
attribute [simp] W1 BO Ah.live Ji Lr KM bG bJ Mt B1 List.range'_succ nF
attribute [simp] ACA PW leT dW YR aJ YL Is jN XB KX Qj
attribute [simp] Wy bV aX Yd fM KD Lt Ie OS GU Eg Ex
attribute [simp] AV FH Uy Op.operands Call.operands
abbrev Ai:Type:=Int×Int
def At (x:Ai):List D:=e2 AC AC x
abbrev AK:Type:=Int×List Cv×List Ai×List Int
def Ao (s a:TypeId) (x:AK):List D:=e4 AC (Dt s AY) (Dt a At) (Dt 3 (e1 AC)) x
def CB (m:Nat) (x:AK):Prop:=x.2.1.length≤m∧(∀ s∈x.2.1,s.2.2.length≤m)∧x.2.2.1.length≤m∧x.2.2.2.length≤m
theorem Rd.sub {w:World} {G:Nat→Prop} {t:TypeId} {es:List (List D)} {v:Value} (h:Rd w G (.sl t es) v):∀ e∈es,∀ d∈e,∃ u,Rd w G d u:=by
 intro e he d hd
 cases h with
 | nil=>simp at he
 | sl _ _ b o c s u hn hcap hG hs hc hr =>
   obtain⟨i,hi,rfl⟩:=List.mem_iff_getElem.1 he;obtain⟨j,hj,rfl⟩:=List.mem_iff_getElem.1 hd;exact⟨_,hr i _ j _ (A1 hi) (A1 hj)⟩
theorem Rds.cell {w:World} {G:Nat→Prop} {ds:List D} {vs:List Value} {f:List Nat} (h:Rds w G ds vs f) {d:D} (hd:d∈ds):∃ u,Rd w G d u:=by
 obtain⟨i,hi,rfl⟩:=List.mem_iff_getElem.1 hd;obtain⟨v,_,hr⟩:=h.2.2 i _ (A1 hi);exact⟨v,hr⟩
theorem wC {w:World} {G:Nat→Prop} {x:X} {v:Value} (h:mI w G x v):∀ (i:Nat) (y:X) (u:Value),[x][i]? = some y→#[v][i]? = some u→mI w G y u:=by
 intro i y u hy hu
 match i with
 | 0=>simp at hy hu;subst hy hu;exact h
 | i+1=>simp at hy
abbrev BW:Type:=List Int
def Az (x:BW):List D:=e1 (Dt 3 (e1 AC)) x
abbrev Zx (xs:List BW):D:=Dt 26 Az xs
abbrev Xk (xs:List BW):X:=.d (Zx xs)
def WW (m:Nat) (xs:List BW):Prop:=xs.length≤m∧∀ x∈xs,x.length≤m
abbrev VI:Type:=Int×List BW
def ED (x:VI):List D:=e2 AC (Dt 26 Az) x
abbrev dS (x:VI):X:=.agg (ED x)
def VN (m:Nat) (x:VI):Prop:=WW m x.2
def Ug (v a w d:Int):Int:=if w=1 then YI (FQ (YI (C0 (DB v (a+1)) 1) (FQ v 1)) (ET 1 (a+1))) (ET d (a+1)) else YI (C0 (DB v (a+1)) 1) (FQ v 1)
def E7 (kind v i:Int):Int :=
 if kind=0 then (if DX v 0 1 then i % 2 else -1) else if kind=1 then (if DX v 0 31 then Ug v (i % 4) (DB i 3 % 2) (DB i 2 % 2) else -1) else -1
def Fb (k:Int):Int:=if k=0 then 1 else if k=1 then 31 else -1
theorem Wn (k:Int):BA Tryz.prog 95 [.d (.int .i64 k)] (.d (.int .i64 (Fb k))):=by
 refine A6 (by kernel_rfl) Tryz.func95 rfl rfl rfl ?_;by_cases h0:k=0
 · subst h0;simp[Fb]
 by_cases h1:k=1
 · subst h1;simp[Fb]
 simp[h0,h1,Fb,show (k==0)=false by simpa using h0,show (k==1)=false by simpa using h1]
theorem M0 (k v i:Int):BA Tryz.prog 66 [.d (.int .i64 k),.d (.int .i64 v),.d (.int .i64 i)] (.d (.int .i64 (E7 k v i))):=by
 refine A6 (by kernel_rfl) Tryz.func66 rfl rfl rfl ?_;simp;refine Ab (Wn k) ?_;simp;refine Ab (Fo _ _ _) ?_;simp;rcases Ep (DX v 0 (Fb k)) with hr|hr
 case inr =>
  by_cases h0:k=0
  · subst h0;rw[show Fb 0=1 from rfl] at hr ⊢;simp[hr,E7]
  by_cases h1:k=1
  · subst h1;rw[show Fb 1=31 from rfl] at hr ⊢;simp[hr,E7]
  simp[hr,E7,h0,h1]
 by_cases h0:k=0
 · subst h0;rw[show Fb 0=1 from rfl] at hr ⊢;simp[hr,E7,CE]
 by_cases h1:k=1
 case neg =>
  rw[show Fb k=-1 by simp[Fb,h0,h1]] at hr;have:=AP.1 hr;omega
 subst h1;rw[show Fb 1=31 from rfl] at hr ⊢;have w1:IntKind.u64.wrap (i % 4)=i % 4:=NA (by omega) (by omega);have w2:IntKind.u64.wrap (i % 4+1)=i % 4+1:=NA (by omega) (by omega);simp[hr,Vj,w1,w2,show 0≤i % 4+1 by omega];rcases Int.emod_two_eq (DB i 3) with hw|hw
 · simp[hr,CE,hw,E7,Ug]
 · simp[hr,CE,hw,E7,Ug,w2,show 0≤i % 4+1 by omega]
section
structure Cc where
 bs:List Int
 i:Nat
 h:Int
def Ml (x:Int):D:=.int .u8 x
abbrev Ci (c:Cc):Ah:=.var 66 [.d (.sl 5 (c.bs.map (e1 Ml))),.d (.int .i64 c.i),.d (.int .i64 c.h)]
def Cc.ok (c:Cc):Prop:=c.i≤c.bs.length∧c.bs.length≤1048576
def bY (x:Int):Int:=IntKind.i64.wrap x
def QF (bs:List Int):Nat→Int
 | 0=>bY (33117+bs.length)
 | k+1=>C0 (bY (bY (bY (QF bs k*131)+bY (bs.getD k 0))+7)) 1073741823
def Gq (bs:List Int):Cc:=⟨bs,0,QF bs (min bs.length 4000)⟩
def Wb (c:Cc):Int:=bY (bY (c.h*6364136223846793005)+1442695040888963407)
def Yh (c:Cc):Int:=C0 (Bm (DB (Wb c) 33) (DB (Wb c) 45)) 255
def Tc (c:Cc):Int:=if c.i<c.bs.length then C0 (bY (Yh c+bY (c.bs.getD c.i 0))) 255 else Yh c
def Xg (c:Cc):Cc:=⟨c.bs,if c.i<c.bs.length then c.i+1 else c.i,Wb c⟩
def Au (c:Cc) (n:Int):Int:=if n≤0 then 0 else (Tc c).tmod n
def Ag (c:Cc) (n:Int):Cc:=if n≤0 then c else Xg c
def G1 (c:Cc) (n:Int):Bool:=Au c n==0
theorem aE (a:Int):C0 a 255=a % 256:=by
 unfold C0;rw[BitVec.toNat_and,Fe,Fe,show ((255:Int) % 18446744073709551616).toNat=2 ^ 8 - 1 from rfl,Nat.and_two_pow_sub_one_eq_mod,Ad (by omega) (by omega)];omega
theorem dQ (c:Cc):0≤Tc c∧Tc c≤255:=by
 unfold Tc Yh;split<;>rw[aE]<;>omega
theorem fW {c:Cc} (h:c.ok):(Xg c).ok:=by
 obtain⟨h1,h2⟩:=h;refine⟨?_,h2⟩;unfold Xg;simp only;split<;>omega
theorem Aw {c:Cc} {n:Int} (h:c.ok):(Ag c n).ok:=by
 unfold Ag;split
 · exact h
 · exact fW h
theorem AU (c:Cc) {n:Int} (h:0<n):0≤Au c n∧Au c n<n:=by
 unfold Au;rw[if_neg (by omega)];have:=dQ c;rw[Int.tmod_eq_emod_of_nonneg this.1];exact⟨Int.emod_nonneg _ (by omega),Int.emod_lt_of_pos _ h⟩
theorem ZH {bs:List Int} (h:bs.length≤1048576):(Gq bs).ok:=⟨Nat.zero_le _,h⟩
theorem Ws {bs:List Int} {k:Nat} (h:k<bs.length):bs[k]? = some (bs.getD k 0):=by
 rw[List.getD_eq_getElem?_getD,A1 h];rfl
attribute [local simp] Ml
theorem Oo (bs:List Int) (h:bs.length≤1048576):CN Tryz.prog 13 [.d (.sl 5 (bs.map (e1 Ml)))] [] (.ptr 0 0) [Ci (Gq bs)]:=by
 have hc:Gq bs=⟨bs,0,QF bs (min bs.length 4000)⟩:=rfl;have h0:IntKind.i64.wrap (33117+bs.length)=QF bs 0:=rfl;rw[hc];refine BD (by kernel_rfl) Tryz.func13 rfl rfl rfl (by simp[Bl,Later]) (by simp[BO,Ah.live]) ?_;simp[h0];refine AB [true,false,false,true,true] (fun k:Nat=>k≤bs.length∧k≤4000) (fun k:Nat=>[(3,.d (.int .i64 (QF bs k))),(4,.d (.int .i64 k))]) (fun k:Nat=>[]) (fun k:Nat=>4000 - k) 0 ?_ ?_ ?_
 · omega
 · exact⟨[],by simp⟩
 rintro I S μ hI hS hμ k ⟨hk1,hk2⟩;by_cases hlt:k<bs.length
 · have hd:decide (k<bs.length)=true:=A8 hlt;by_cases hl4:k<4000
   · have hd4:decide ((k:Int)<4000)=true:=A8 (by omega);have hl4':(k:Int)<4000:=by omega
     have hb:=Ws hlt;have hn:QF bs (k+1)=C0 (IntKind.i64.wrap (IntKind.i64.wrap (IntKind.i64.wrap (QF bs k*131)+IntKind.i64.wrap (bs.getD k 0))+7)) 1073741823:=rfl;have w2:IntKind.i64.wrap ((k:Int)+1)=(k:Int)+1:=Ad (by omega) (by omega);generalize bs.getD k 0=y at *;simp[hd,hd4,hl4',hb,w2,←hn];exact Ae hI hS hμ (k+1) (by omega) (by omega) ⟨[],by simp⟩
   · obtain rfl:k=4000:=by omega
     have hm:min bs.length 4000=4000:=by omega
     rw[hm];have hd5:decide ((4000:Int)<(bs.length:Int))=true:=A8 (by omega);simp[hd,hd5];exact⟨[0],by simp⟩
 · obtain rfl:k=bs.length:=by omega
   have hm:min bs.length 4000=bs.length:=by omega
   rw[hm];simp[BH hlt,hlt];exact⟨[0],by simp⟩
theorem Ul (c:Cc) (h:c.ok):CN Tryz.prog 36 [.ptr 0 0] [Ci c] (.d (.int .i64 (Tc c))) [Ci (Xg c)]:=by
 obtain⟨bs,i,hh⟩:=c;obtain⟨h1,h2⟩:=h;simp only at h1 h2;have hm:IntKind.i64.wrap (IntKind.i64.wrap (hh*6364136223846793005)+1442695040888963407)=Wb ⟨bs,i,hh⟩:=rfl;have hlo:C0 (Bm (DB (Wb ⟨bs,i,hh⟩) 33) (DB (Wb ⟨bs,i,hh⟩) 45)) 255=Yh ⟨bs,i,hh⟩:=rfl;have hv:Tc ⟨bs,i,hh⟩=if i<bs.length then C0 (bY (Yh ⟨bs,i,hh⟩+bY (bs.getD i 0))) 255 else Yh ⟨bs,i,hh⟩:=rfl;have hcc:Xg ⟨bs,i,hh⟩=⟨bs,if i<bs.length then i+1 else i,Wb ⟨bs,i,hh⟩⟩:=rfl;rw[hcc,hv];generalize Wb ⟨bs,i,hh⟩=m at *;generalize Yh ⟨bs,i,hh⟩=lo at *;have hb0:i<bs.length→bs[i]? = some (bs.getD i 0):=Ws;generalize bs.getD i 0=y at *;refine BD (by kernel_rfl) Tryz.func36 rfl rfl rfl (by simp[Bl,Later]) (by simp[BO,Ah.live]) ?_;simp[hm];refine AH 13 (by kernel_rfl) ?_;simp[hlo];by_cases hlt:i<bs.length
 · have hb:=hb0 hlt;have w2:IntKind.i64.wrap ((i:Int)+1)=(i:Int)+1:=Ad (by omega) (by omega);have hw:IntKind.i64.wrap (lo+IntKind.i64.wrap y)=bY (lo+bY y):=rfl;refine AH 10 (by kernel_rfl) ?_;simp[A8 hlt,hlt];refine AH 15 (by kernel_rfl) ?_;simp[hb,hw,w2];exact⟨[0],by simp⟩
 · refine AH 10 (by kernel_rfl) ?_;simp[BH hlt,hlt];exact⟨[0],by simp⟩
theorem AG (c:Cc) (n:Int) (h:c.ok) (hn:n≤256):CN Tryz.prog 15 [.ptr 0 0,.d (.int .i64 n)] [Ci c] (.d (.int .i64 (Au c n))) [Ci (Ag c n)]:=by
 have hb:=Ul c h;unfold Au Ag;refine Ec (by kernel_rfl) Tryz.func15 rfl rfl rfl (by simp[Bl,Later]) (by simp[BO,Ah.live]) ?_;by_cases h0:n≤0
 · simp[h0];exact⟨[0],by simp⟩
 · simp[h0,show 0<n by omega,hn,show ¬ 256<n by omega];refine Ac (hb) [] [0] (by simp) ?_;simp[show ¬ n=0 by omega];exact⟨[0],by simp⟩
theorem Gg (c:Cc) (n:Int) (h:c.ok) (hn:n≤256):CN Tryz.prog 34 [.ptr 0 0,.d (.int .i64 n)] [Ci c] (.d (.bool (G1 c n))) [Ci (Ag c n)]:=by
 have hb:=AG c n h hn;refine Ec (by kernel_rfl) Tryz.func34 rfl rfl rfl (by simp[Bl,Later]) (by simp[BO,Ah.live]) ?_;simp;refine Ac (hb) [] [0] (by simp) ?_;simp;exact⟨[0],by simp[G1]⟩
theorem Hn (c:Cc) (xs:List Int) (h:c.ok) (h0:0<xs.length) (hn:xs.length≤256):CN Tryz.prog 35 [.ptr 0 0,.d (Dt 3 (e1 AC) xs)] [Ci c] (.d (.int .i64 (xs.getD (Au c xs.length).toNat 0))) [Ci (Ag c xs.length)]:=by
 have hb:=AG c xs.length h (by omega);have hr:=AU c (n:=xs.length) (by omega);generalize Au c xs.length=q at *;generalize Ag c xs.length=c' at *;obtain⟨k,rfl⟩:∃ k:Nat,q=k:=⟨q.toNat,by omega⟩;have hg:xs[k]? = some (xs.getD k 0):=by rw[List.getD_eq_getElem?_getD,A1 (by omega)];rfl
 rw[Int.toNat_natCast];generalize xs.getD k 0=y at *;refine Ec (by kernel_rfl) Tryz.func35 rfl rfl rfl (by simp[Bl,Later]) (by simp[BO,Ah.live]) ?_;simp;refine Ac (hb) [] [0] (by simp) ?_;simp[hg];exact⟨[0],by simp⟩
end
end Go.Proofs.YtnjedabjbeipeaaGreat
