/-
  The walker's facts for simp.
  Conditions: none.
-/
import Derived.Test.YtnjedabjbeipeaaGreatQa
namespace Go.Proofs.YtnjedabjbeipeaaGreat
open Go.RowKit Go.ChangeShapes Go.WideShapes Go.ChangeAt
set_option linter.unusedSimpArgs false
set_option linter.unusedVariables false
set_option maxRecDepth 100000
set_option maxHeartbeats 10000000
attribute [simp ↓] BT BS QM Om
attribute [simp] V6 MG T7 Fk gT KQ W3 PN KH Sq iO HA
attribute [simp] FC H1 D6 H8 Fo fQ VV UB nX nW RS IK
attribute [simp] EJ bF Vy UQ cT aM UM MQ dT X4 Rh XA
attribute [simp] YQ Uh Uj R6 bE UG GK EU E4 UA D3 Xz
attribute [simp] X7 YY XC Y4 Yw XK QW lD Vq DC pA Ol
attribute [simp] pH oS AAR xM zX AAF wN lC oG qV Zs Cn
attribute [simp] EV Mx Hc HU St.get St.put St.eval GQ evalT jM Xn jZ
attribute [simp] lT kW iJ nF kZ Vi V2 jG Sn ME lU gI
attribute [simp] iN Md fE MD aL dW zK Kb Ko Hk Kw Sg
attribute [simp] IM Ik C7 Q3 iH Hs Jf RK EB Bh V.cell IC
attribute [simp] DS Bg kill CS B0 Jr GY nN JR sets Dr e1
attribute [simp] e2 e3 e4 AC CZ mJ cH GC QF lP Vf XE
attribute [simp] Sa YJ dX Jg O2 bM TL vlV jK F0 inst Ib
attribute [simp] LS GE LE Nf GH O3 Ht Ip NH Le On EQ
attribute [simp] pB HW pE qR Uz tI UX UU L6 frame XJ Ve
attribute [simp] VM BP Ah.live Jv Lo Ks bD dM MC B1 List.range'_succ mP
attribute [simp] AB4 QS leT dI YV cB XT Iq fO YG K0 PK
attribute [simp] Wt dZ aG Yf kK KK Lq Ih OP GW Ef Ey
attribute [simp] AU FH UF Op.operands Call.operands
abbrev Ai:Type:=Int×Int
def At (x:Ai):List D:=e2 AC AC x
abbrev AK:Type:=Int×List Cx×List Ai×List Int
def Ao (s a:TypeId) (x:AK):List D:=e4 AC (Dr s AY) (Dr a At) (Dr 3 (e1 AC)) x
def CF (m:Nat) (x:AK):Prop:=x.2.1.length≤m∧(∀ s∈x.2.1,s.2.2.length≤m)∧x.2.2.1.length≤m∧x.2.2.2.length≤m
theorem Rd.sub {w:World} {G:Nat→Prop} {t:TypeId} {es:List (List D)} {v:Value} (h:Rd w G (.sl t es) v):∀ e∈es,∀ d∈e,∃ u,Rd w G d u:=by
 intro e he d hd
 cases h with
 | nil=>simp at he
 | sl _ _ b o c s u hn hcap hG hs hc hr =>
   obtain⟨i,hi,rfl⟩:=List.mem_iff_getElem.1 he;obtain⟨j,hj,rfl⟩:=List.mem_iff_getElem.1 hd;exact⟨_,hr i _ j _ (A1 hi) (A1 hj)⟩
theorem Rds.cell {w:World} {G:Nat→Prop} {ds:List D} {vs:List Value} {f:List Nat} (h:Rds w G ds vs f) {d:D} (hd:d∈ds):∃ u,Rd w G d u:=by
 obtain⟨i,hi,rfl⟩:=List.mem_iff_getElem.1 hd;obtain⟨v,_,hr⟩:=h.2.2 i _ (A1 hi);exact⟨v,hr⟩
theorem xT {w:World} {G:Nat→Prop} {x:X} {v:Value} (h:oF w G x v):∀ (i:Nat) (y:X) (u:Value),[x][i]? = some y→#[v][i]? = some u→oF w G y u:=by
 intro i y u hy hu
 match i with
 | 0=>simp at hy hu;subst hy hu;exact h
 | i+1=>simp at hy
abbrev BW:Type:=List Int
def Az (x:BW):List D:=e1 (Dr 3 (e1 AC)) x
abbrev Zv (xs:List BW):D:=Dr 26 Az xs
abbrev VU (xs:List BW):X:=.d (Zv xs)
def Vd (m:Nat) (xs:List BW):Prop:=xs.length≤m∧∀ x∈xs,x.length≤m
abbrev WO:Type:=Int×List BW
def EE (x:WO):List D:=e2 AC (Dr 26 Az) x
abbrev cC (x:WO):X:=.agg (EE x)
def U1 (m:Nat) (x:WO):Prop:=Vd m x.2
def Ua (v a w d:Int):Int:=if w=1 then Yq (FK (Yq (C0 (DD v (a+1)) 1) (FK v 1)) (ES 1 (a+1))) (ES d (a+1)) else Yq (C0 (DD v (a+1)) 1) (FK v 1)
def E9 (kind v i:Int):Int :=
 if kind=0 then (if DX v 0 1 then i % 2 else -1) else if kind=1 then (if DX v 0 31 then Ua v (i % 4) (DD i 3 % 2) (DD i 2 % 2) else -1) else -1
def E7 (k:Int):Int:=if k=0 then 1 else if k=1 then 31 else -1
theorem VJ (k:Int):BA Tryz.prog 95 [.d (.int .i64 k)] (.d (.int .i64 (E7 k))):=by
 refine A6 (by kernel_rfl) Tryz.func95 rfl rfl rfl ?_;by_cases h0:k=0
 · subst h0;simp[E7]
 by_cases h1:k=1
 · subst h1;simp[E7]
 simp[h0,h1,E7,show (k==0)=false by simpa using h0,show (k==1)=false by simpa using h1]
theorem MA (k v i:Int):BA Tryz.prog 66 [.d (.int .i64 k),.d (.int .i64 v),.d (.int .i64 i)] (.d (.int .i64 (E9 k v i))):=by
 refine A6 (by kernel_rfl) Tryz.func66 rfl rfl rfl ?_;simp;refine Ab (VJ k) ?_;simp;refine Ab (Fl _ _ _) ?_;simp;rcases Ep (DX v 0 (E7 k)) with hr|hr
 case inr =>
  by_cases h0:k=0
  · subst h0;rw[show E7 0=1 from rfl] at hr ⊢;simp[hr,E9]
  by_cases h1:k=1
  · subst h1;rw[show E7 1=31 from rfl] at hr ⊢;simp[hr,E9]
  simp[hr,E9,h0,h1]
 by_cases h0:k=0
 · subst h0;rw[show E7 0=1 from rfl] at hr ⊢;simp[hr,E9,CD]
 by_cases h1:k=1
 case neg =>
  rw[show E7 k=-1 by simp[E7,h0,h1]] at hr;have:=AP.1 hr;omega
 subst h1;rw[show E7 1=31 from rfl] at hr ⊢;have w1:IntKind.u64.wrap (i % 4)=i % 4:=NM (by omega) (by omega);have w2:IntKind.u64.wrap (i % 4+1)=i % 4+1:=NM (by omega) (by omega);simp[hr,Xo,w1,w2,show 0≤i % 4+1 by omega];rcases Int.emod_two_eq (DD i 3) with hw|hw
 · simp[hr,CD,hw,E9,Ua]
 · simp[hr,CD,hw,E9,Ua,w2,show 0≤i % 4+1 by omega]
section
structure Cd where
 bs:List Int
 i:Nat
 h:Int
def Mo (x:Int):D:=.int .u8 x
abbrev Cj (c:Cd):Ah:=.var 66 [.d (.sl 5 (c.bs.map (e1 Mo))),.d (.int .i64 c.i),.d (.int .i64 c.h)]
def Cd.ok (c:Cd):Prop:=c.i≤c.bs.length∧c.bs.length≤1048576
def bJ (x:Int):Int:=IntKind.i64.wrap x
def Qh (bs:List Int):Nat→Int
 | 0=>bJ (33117+bs.length)
 | k+1=>C0 (bJ (bJ (bJ (Qh bs k*131)+bJ (bs.getD k 0))+7)) 1073741823
def Gl (bs:List Int):Cd:=⟨bs,0,Qh bs (min bs.length 4000)⟩
def Xd (c:Cd):Int:=bJ (bJ (c.h*6364136223846793005)+1442695040888963407)
def YH (c:Cd):Int:=C0 (Bm (DD (Xd c) 33) (DD (Xd c) 45)) 255
def SL (c:Cd):Int:=if c.i<c.bs.length then C0 (bJ (YH c+bJ (c.bs.getD c.i 0))) 255 else YH c
def Wx (c:Cd):Cd:=⟨c.bs,if c.i<c.bs.length then c.i+1 else c.i,Xd c⟩
def Au (c:Cd) (n:Int):Int:=if n≤0 then 0 else (SL c).tmod n
def Ag (c:Cd) (n:Int):Cd:=if n≤0 then c else Wx c
def Ha (c:Cd) (n:Int):Bool:=Au c n==0
theorem eB (a:Int):C0 a 255=a % 256:=by
 unfold C0;rw[BitVec.toNat_and,EW,EW,show ((255:Int) % 18446744073709551616).toNat=2 ^ 8 - 1 from rfl,Nat.and_two_pow_sub_one_eq_mod,Ad (by omega) (by omega)];omega
theorem dQ (c:Cd):0≤SL c∧SL c≤255:=by
 unfold SL YH;split<;>rw[eB]<;>omega
theorem lW {c:Cd} (h:c.ok):(Wx c).ok:=by
 obtain⟨h1,h2⟩:=h;refine⟨?_,h2⟩;unfold Wx;simp only;split<;>omega
theorem Aw {c:Cd} {n:Int} (h:c.ok):(Ag c n).ok:=by
 unfold Ag;split
 · exact h
 · exact lW h
theorem AV (c:Cd) {n:Int} (h:0<n):0≤Au c n∧Au c n<n:=by
 unfold Au;rw[if_neg (by omega)];have:=dQ c;rw[Int.tmod_eq_emod_of_nonneg this.1];exact⟨Int.emod_nonneg _ (by omega),Int.emod_lt_of_pos _ h⟩
theorem Zw {bs:List Int} (h:bs.length≤1048576):(Gl bs).ok:=⟨Nat.zero_le _,h⟩
theorem WN {bs:List Int} {k:Nat} (h:k<bs.length):bs[k]? = some (bs.getD k 0):=by
 rw[List.getD_eq_getElem?_getD,A1 h];rfl
attribute [local simp] Mo
theorem OK (bs:List Int) (h:bs.length≤1048576):CM Tryz.prog 13 [.d (.sl 5 (bs.map (e1 Mo)))] [] (.ptr 0 0) [Cj (Gl bs)]:=by
 have hc:Gl bs=⟨bs,0,Qh bs (min bs.length 4000)⟩:=rfl;have h0:IntKind.i64.wrap (33117+bs.length)=Qh bs 0:=rfl;rw[hc];refine BE (by kernel_rfl) Tryz.func13 rfl rfl rfl (by simp[Bl,Later]) (by simp[BP,Ah.live]) ?_;simp[h0];refine AB [true,false,false,true,true] (fun k:Nat=>k≤bs.length∧k≤4000) (fun k:Nat=>[(3,.d (.int .i64 (Qh bs k))),(4,.d (.int .i64 k))]) (fun k:Nat=>[]) (fun k:Nat=>4000 - k) 0 ?_ ?_ ?_
 · omega
 · exact⟨[],by simp⟩
 rintro I S μ hI hS hμ k ⟨hk1,hk2⟩;by_cases hlt:k<bs.length
 · have hd:decide (k<bs.length)=true:=A8 hlt;by_cases hl4:k<4000
   · have hd4:decide ((k:Int)<4000)=true:=A8 (by omega);have hl4':(k:Int)<4000:=by omega
     have hb:=WN hlt;have hn:Qh bs (k+1)=C0 (IntKind.i64.wrap (IntKind.i64.wrap (IntKind.i64.wrap (Qh bs k*131)+IntKind.i64.wrap (bs.getD k 0))+7)) 1073741823:=rfl;have w2:IntKind.i64.wrap ((k:Int)+1)=(k:Int)+1:=Ad (by omega) (by omega);generalize bs.getD k 0=y at *;simp[hd,hd4,hl4',hb,w2,←hn];exact Ae hI hS hμ (k+1) (by omega) (by omega) ⟨[],by simp⟩
   · obtain rfl:k=4000:=by omega
     have hm:min bs.length 4000=4000:=by omega
     rw[hm];have hd5:decide ((4000:Int)<(bs.length:Int))=true:=A8 (by omega);simp[hd,hd5];exact⟨[0],by simp⟩
 · obtain rfl:k=bs.length:=by omega
   have hm:min bs.length 4000=bs.length:=by omega
   rw[hm];simp[BH hlt,hlt];exact⟨[0],by simp⟩
theorem UK (c:Cd) (h:c.ok):CM Tryz.prog 36 [.ptr 0 0] [Cj c] (.d (.int .i64 (SL c))) [Cj (Wx c)]:=by
 obtain⟨bs,i,hh⟩:=c;obtain⟨h1,h2⟩:=h;simp only at h1 h2;have hm:IntKind.i64.wrap (IntKind.i64.wrap (hh*6364136223846793005)+1442695040888963407)=Xd ⟨bs,i,hh⟩:=rfl;have hlo:C0 (Bm (DD (Xd ⟨bs,i,hh⟩) 33) (DD (Xd ⟨bs,i,hh⟩) 45)) 255=YH ⟨bs,i,hh⟩:=rfl;have hv:SL ⟨bs,i,hh⟩=if i<bs.length then C0 (bJ (YH ⟨bs,i,hh⟩+bJ (bs.getD i 0))) 255 else YH ⟨bs,i,hh⟩:=rfl;have hcc:Wx ⟨bs,i,hh⟩=⟨bs,if i<bs.length then i+1 else i,Xd ⟨bs,i,hh⟩⟩:=rfl;rw[hcc,hv];generalize Xd ⟨bs,i,hh⟩=m at *;generalize YH ⟨bs,i,hh⟩=lo at *;have hb0:i<bs.length→bs[i]? = some (bs.getD i 0):=WN;generalize bs.getD i 0=y at *;refine BE (by kernel_rfl) Tryz.func36 rfl rfl rfl (by simp[Bl,Later]) (by simp[BP,Ah.live]) ?_;simp[hm];refine AH 13 (by kernel_rfl) ?_;simp[hlo];by_cases hlt:i<bs.length
 · have hb:=hb0 hlt;have w2:IntKind.i64.wrap ((i:Int)+1)=(i:Int)+1:=Ad (by omega) (by omega);have hw:IntKind.i64.wrap (lo+IntKind.i64.wrap y)=bJ (lo+bJ y):=rfl;refine AH 10 (by kernel_rfl) ?_;simp[A8 hlt,hlt];refine AH 15 (by kernel_rfl) ?_;simp[hb,hw,w2];exact⟨[0],by simp⟩
 · refine AH 10 (by kernel_rfl) ?_;simp[BH hlt,hlt];exact⟨[0],by simp⟩
theorem AG (c:Cd) (n:Int) (h:c.ok) (hn:n≤256):CM Tryz.prog 15 [.ptr 0 0,.d (.int .i64 n)] [Cj c] (.d (.int .i64 (Au c n))) [Cj (Ag c n)]:=by
 have hb:=UK c h;unfold Au Ag;refine Ec (by kernel_rfl) Tryz.func15 rfl rfl rfl (by simp[Bl,Later]) (by simp[BP,Ah.live]) ?_;by_cases h0:n≤0
 · simp[h0];exact⟨[0],by simp⟩
 · simp[h0,show 0<n by omega,hn,show ¬ 256<n by omega];refine Ac (hb) [] [0] (by simp) ?_;simp[show ¬ n=0 by omega];exact⟨[0],by simp⟩
theorem Gp (c:Cd) (n:Int) (h:c.ok) (hn:n≤256):CM Tryz.prog 34 [.ptr 0 0,.d (.int .i64 n)] [Cj c] (.d (.bool (Ha c n))) [Cj (Ag c n)]:=by
 have hb:=AG c n h hn;refine Ec (by kernel_rfl) Tryz.func34 rfl rfl rfl (by simp[Bl,Later]) (by simp[BP,Ah.live]) ?_;simp;refine Ac (hb) [] [0] (by simp) ?_;simp;exact⟨[0],by simp[Ha]⟩
theorem Hn (c:Cd) (xs:List Int) (h:c.ok) (h0:0<xs.length) (hn:xs.length≤256):CM Tryz.prog 35 [.ptr 0 0,.d (Dr 3 (e1 AC) xs)] [Cj c] (.d (.int .i64 (xs.getD (Au c xs.length).toNat 0))) [Cj (Ag c xs.length)]:=by
 have hb:=AG c xs.length h (by omega);have hr:=AV c (n:=xs.length) (by omega);generalize Au c xs.length=q at *;generalize Ag c xs.length=c' at *;obtain⟨k,rfl⟩:∃ k:Nat,q=k:=⟨q.toNat,by omega⟩;have hg:xs[k]? = some (xs.getD k 0):=by rw[List.getD_eq_getElem?_getD,A1 (by omega)];rfl
 rw[Int.toNat_natCast];generalize xs.getD k 0=y at *;refine Ec (by kernel_rfl) Tryz.func35 rfl rfl rfl (by simp[Bl,Later]) (by simp[BP,Ah.live]) ?_;simp;refine Ac (hb) [] [0] (by simp) ?_;simp[hg];exact⟨[0],by simp⟩
end
end Go.Proofs.YtnjedabjbeipeaaGreat
