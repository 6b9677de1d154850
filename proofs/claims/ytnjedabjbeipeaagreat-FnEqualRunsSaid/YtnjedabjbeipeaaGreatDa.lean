/-
  The walker's facts for simp.
  Conditions: none.
-/
import Derived.Test.YtnjedabjbeipeaaGreatQa
namespace Go.Proofs.YtnjedabjbeipeaaGreat
open Go.RowKit Go.ChangeShapes Go.WideShapes Go.ChangeAt
set_option linter.unusedSimpArgs false
set_option linter.unusedVariables false
set_option maxRecDepth 100000
set_option maxHeartbeats 10000000
attribute [simp ↓] BQ BM Qq N1
attribute [simp] WN Lz TO E7 dL Kr V7 Qg Kb RS eQ He
attribute [simp] Fe Ht DN Hv EZ fQ VD Um mP mL Q8 Ip
attribute [simp] Ev Zx UB T5 aD bE To Mo ZQ Yh Qz Xx
attribute [simp] Yf TS TJ Rm Zr TB Gh ER EK TV DR Xt
attribute [simp] Yr Yt X1 XF Xy Xu PH eT Wa Dn nN Oc
attribute [simp] nQ lY xB vJ AAB AAK AAY gV lZ pT YF Ck
attribute [simp] EM Mt GH Hr St.get St.put St.eval Gj evalT dJ V4 gU
attribute [simp] gM fF eN lP jT UA Wv iQ S6 MA gK iB
attribute [simp] gY LE dT Mz bD ZM xJ JN Ke GU Kh S9
attribute [simp] Ih H0 CZ PQ dZ GY IU Q9 Ei Bg V.cell Ib
attribute [simp] DL Be kill CK BV IH Gw mH Jn sets Dh e1
attribute [simp] e2 e3 e4 AC CQ mK cE Gd Qr iC V8 XS
attribute [simp] Rc W1 ZI Ja OA Zz SA vlV iT FM inst HE
attribute [simp] Lf F9 Lr Nf Ga OC G3 HZ M2 Le NV EA
attribute [simp] nM HA nH pL Uo tY Uj Tk LP frame Xp WP
attribute [simp] Wt BN Ah.live Je KV JV bL ZW Mc BW List.range'_succ lT
attribute [simp] ABX Pf leT aZ Xf cI Xl HV iV W0 KA Qk
attribute [simp] Ve aM bG Xj eH J1 K4 HM NS Gu D6 Eg
attribute [simp] AU Fm T9 Op.operands Call.operands
abbrev Ai:Type:=Int×Int
def At (x:Ai):List D:=e2 AC AC x
abbrev AK:Type:=Int×List Cr×List Ai×List Int
def Ao (s a:TypeId) (x:AK):List D:=e4 AC (Dh s AY) (Dh a At) (Dh 3 (e1 AC)) x
def Cz (m:Nat) (x:AK):Prop:=x.2.1.length≤m∧(∀ s∈x.2.1,s.2.2.length≤m)∧x.2.2.1.length≤m∧x.2.2.2.length≤m
theorem Rd.sub {w:World} {G:Nat→Prop} {t:TypeId} {es:List (List D)} {v:Value} (h:Rd w G (.sl t es) v):∀ e∈es,∀ d∈e,∃ u,Rd w G d u:=by
 intro e he d hd
 cases h with
 | nil=>simp at he
 | sl _ _ b o c s u hn hcap hG hs hc hr =>
   obtain⟨i,hi,rfl⟩:=List.mem_iff_getElem.1 he;obtain⟨j,hj,rfl⟩:=List.mem_iff_getElem.1 hd;exact⟨_,hr i _ j _ (zz0 hi) (zz0 hj)⟩
theorem Rds.cell {w:World} {G:Nat→Prop} {ds:List D} {vs:List Value} {f:List Nat} (h:Rds w G ds vs f) {d:D} (hd:d∈ds):∃ u,Rd w G d u:=by
 obtain⟨i,hi,rfl⟩:=List.mem_iff_getElem.1 hd;obtain⟨v,_,hr⟩:=h.2.2 i _ (zz0 hi);exact⟨v,hr⟩
theorem yA {w:World} {G:Nat→Prop} {x:X} {v:Value} (h:kU w G x v):∀ (i:Nat) (y:X) (u:Value),[x][i]? = some y→#[v][i]? = some u→kU w G y u:=by
 intro i y u hy hu
 match i with
 | 0=>simp at hy hu;subst hy hu;exact h
 | i+1=>simp at hy
abbrev BT:Type:=List Int
def Az (x:BT):List D:=e1 (Dh 3 (e1 AC)) x
abbrev Zf (xs:List BT):D:=Dh 26 Az xs
abbrev US (xs:List BT):X:=.d (Zf xs)
def Wp (m:Nat) (xs:List BT):Prop:=xs.length≤m∧∀ x∈xs,x.length≤m
abbrev UY:Type:=Int×List BT
def Eo (x:UY):List D:=e2 AC (Dh 26 Az) x
abbrev aU (x:UY):X:=.agg (Eo x)
def VE (m:Nat) (x:UY):Prop:=Wp m x.2
def Ua (v a w d:Int):Int:=if w=1 then XR (Fp (XR (CR (Dm v (a+1)) 1) (Fp v 1)) (EC 1 (a+1))) (EC d (a+1)) else XR (CR (Dm v (a+1)) 1) (Fp v 1)
def EW (kind v i:Int):Int :=
 if kind=0 then (if DM v 0 1 then i % 2 else -1) else if kind=1 then (if DM v 0 31 then Ua v (i % 4) (Dm i 3 % 2) (Dm i 2 % 2) else -1) else -1
def EQ (k:Int):Int:=if k=0 then 1 else if k=1 then 31 else -1
theorem UI (k:Int):Bx Tryz.prog 95 [.d (.int .i64 k)] (.d (.int .i64 (EQ k))):=by
 refine A5 (by kernel_rfl) Tryz.func95 rfl rfl rfl ?_;by_cases h0:k=0
 · subst h0;simp[EQ]
 by_cases h1:k=1
 · subst h1;simp[EQ]
 simp[h0,h1,EQ,show (k==0)=false by simpa using h0,show (k==1)=false by simpa using h1]
theorem Mw (k v i:Int):Bx Tryz.prog 66 [.d (.int .i64 k),.d (.int .i64 v),.d (.int .i64 i)] (.d (.int .i64 (EW k v i))):=by
 refine A5 (by kernel_rfl) Tryz.func66 rfl rfl rfl ?_;simp;refine Ab (UI k) ?_;simp;refine Ab (E8 _ _ _) ?_;simp;rcases ABu (DM v 0 (EQ k)) with hr|hr
 case inr =>
  by_cases h0:k=0
  · subst h0;rw[show EQ 0=1 from rfl] at hr ⊢;simp[hr,EW]
  by_cases h1:k=1
  · subst h1;rw[show EQ 1=31 from rfl] at hr ⊢;simp[hr,EW]
  simp[hr,EW,h0,h1]
 by_cases h0:k=0
 · subst h0;rw[show EQ 0=1 from rfl] at hr ⊢;simp[hr,EW,CC]
 by_cases h1:k=1
 case neg =>
  rw[show EQ k=-1 by simp[EQ,h0,h1]] at hr;have:=AP.1 hr;omega
 subst h1;rw[show EQ 1=31 from rfl] at hr ⊢;have w1:IntKind.u64.wrap (i % 4)=i % 4:=M8 (by omega) (by omega);have w2:IntKind.u64.wrap (i % 4+1)=i % 4+1:=M8 (by omega) (by omega);simp[hr,VP,w1,w2,show 0≤i % 4+1 by omega];rcases Int.emod_two_eq (Dm i 3) with hw|hw
 · simp[hr,CC,hw,EW,Ua]
 · simp[hr,CC,hw,EW,Ua,w2,show 0≤i % 4+1 by omega]
section
structure B9 where
 bs:List Int
 i:Nat
 h:Int
def LS (x:Int):D:=.int .u8 x
abbrev Ce (c:B9):Ah:=.var 66 [.d (.sl 5 (c.bs.map (e1 LS))),.d (.int .i64 c.i),.d (.int .i64 c.h)]
def B9.ok (c:B9):Prop:=c.i≤c.bs.length∧c.bs.length≤1048576
def bM (x:Int):Int:=IntKind.i64.wrap x
def PY (bs:List Int):Nat→Int
 | 0=>bM (33117+bs.length)
 | k+1=>CR (bM (bM (bM (PY bs k*131)+bM (bs.getD k 0))+7)) 1073741823
def FW (bs:List Int):B9:=⟨bs,0,PY bs (min bs.length 4000)⟩
def Uy (c:B9):Int:=bM (bM (c.h*6364136223846793005)+1442695040888963407)
def Yw (c:B9):Int:=CR (Bl (Dm (Uy c) 33) (Dm (Uy c) 45)) 255
def RP (c:B9):Int:=if c.i<c.bs.length then CR (bM (Yw c+bM (c.bs.getD c.i 0))) 255 else Yw c
def VF (c:B9):B9:=⟨c.bs,if c.i<c.bs.length then c.i+1 else c.i,Uy c⟩
def Au (c:B9) (n:Int):Int:=if n≤0 then 0 else (RP c).tmod n
def Ag (c:B9) (n:Int):B9:=if n≤0 then c else VF c
def GQ (c:B9) (n:Int):Bool:=Au c n==0
theorem aH (a:Int):CR a 255=a % 256:=by
 unfold CR;rw[BitVec.toNat_and,EE,EE,show ((255:Int) % 18446744073709551616).toNat=2 ^ 8 - 1 from rfl,Nat.and_two_pow_sub_one_eq_mod,Ad (by omega) (by omega)];omega
theorem ZG (c:B9):0≤RP c∧RP c≤255:=by
 unfold RP Yw;split<;>rw[aH]<;>omega
theorem cZ {c:B9} (h:c.ok):(VF c).ok:=by
 obtain⟨h1,h2⟩:=h;refine⟨?_,h2⟩;unfold VF;simp only;split<;>omega
theorem Aw {c:B9} {n:Int} (h:c.ok):(Ag c n).ok:=by
 unfold Ag;split
 · exact h
 · exact cZ h
theorem AV (c:B9) {n:Int} (h:0<n):0≤Au c n∧Au c n<n:=by
 unfold Au;rw[if_neg (by omega)];have:=ZG c;rw[Int.tmod_eq_emod_of_nonneg this.1];exact⟨Int.emod_nonneg _ (by omega),Int.emod_lt_of_pos _ h⟩
theorem YM {bs:List Int} (h:bs.length≤1048576):(FW bs).ok:=⟨Nat.zero_le _,h⟩
theorem UW {bs:List Int} {k:Nat} (h:k<bs.length):bs[k]? = some (bs.getD k 0):=by
 rw[List.getD_eq_getElem?_getD,zz0 h];rfl
attribute [local simp] LS
theorem NF (bs:List Int) (h:bs.length≤1048576):CG Tryz.prog 13 [.d (.sl 5 (bs.map (e1 LS)))] [] (.ptr 0 0) [Ce (FW bs)]:=by
 have hc:FW bs=⟨bs,0,PY bs (min bs.length 4000)⟩:=rfl;have h0:IntKind.i64.wrap (33117+bs.length)=PY bs 0:=rfl;rw[hc];refine BA (by kernel_rfl) Tryz.func13 rfl rfl rfl (by simp[Bi,Later]) (by simp[BN,Ah.live]) ?_;simp[h0];refine AB [true,false,false,true,true] (fun k:Nat=>k≤bs.length∧k≤4000) (fun k:Nat=>[(3,.d (.int .i64 (PY bs k))),(4,.d (.int .i64 k))]) (fun k:Nat=>[]) (fun k:Nat=>4000 - k) 0 ?_ ?_ ?_
 · omega
 · exact⟨[],by simp⟩
 rintro I S μ hI hS hμ k ⟨hk1,hk2⟩;by_cases hlt:k<bs.length
 · have hd:decide (k<bs.length)=true:=zz2 hlt;by_cases hl4:k<4000
   · have hd4:decide ((k:Int)<4000)=true:=zz2 (by omega);have hl4':(k:Int)<4000:=by omega
     have hb:=UW hlt;have hn:PY bs (k+1)=CR (IntKind.i64.wrap (IntKind.i64.wrap (IntKind.i64.wrap (PY bs k*131)+IntKind.i64.wrap (bs.getD k 0))+7)) 1073741823:=rfl;have w2:IntKind.i64.wrap ((k:Int)+1)=(k:Int)+1:=Ad (by omega) (by omega);generalize bs.getD k 0=y at *;simp[hd,hd4,hl4',hb,w2,←hn];exact Ae hI hS hμ (k+1) (by omega) (by omega) ⟨[],by simp⟩
   · obtain rfl:k=4000:=by omega
     have hm:min bs.length 4000=4000:=by omega
     rw[hm];have hd5:decide ((4000:Int)<(bs.length:Int))=true:=zz2 (by omega);simp[hd,hd5];exact⟨[0],by simp⟩
 · obtain rfl:k=bs.length:=by omega
   have hm:min bs.length 4000=bs.length:=by omega
   rw[hm];simp[zz3 hlt,hlt];exact⟨[0],by simp⟩
theorem Uq (c:B9) (h:c.ok):CG Tryz.prog 36 [.ptr 0 0] [Ce c] (.d (.int .i64 (RP c))) [Ce (VF c)]:=by
 obtain⟨bs,i,hh⟩:=c;obtain⟨h1,h2⟩:=h;simp only at h1 h2;have hm:IntKind.i64.wrap (IntKind.i64.wrap (hh*6364136223846793005)+1442695040888963407)=Uy ⟨bs,i,hh⟩:=rfl;have hlo:CR (Bl (Dm (Uy ⟨bs,i,hh⟩) 33) (Dm (Uy ⟨bs,i,hh⟩) 45)) 255=Yw ⟨bs,i,hh⟩:=rfl;have hv:RP ⟨bs,i,hh⟩=if i<bs.length then CR (bM (Yw ⟨bs,i,hh⟩+bM (bs.getD i 0))) 255 else Yw ⟨bs,i,hh⟩:=rfl;have hcc:VF ⟨bs,i,hh⟩=⟨bs,if i<bs.length then i+1 else i,Uy ⟨bs,i,hh⟩⟩:=rfl;rw[hcc,hv];generalize Uy ⟨bs,i,hh⟩=m at *;generalize Yw ⟨bs,i,hh⟩=lo at *;have hb0:i<bs.length→bs[i]? = some (bs.getD i 0):=UW;generalize bs.getD i 0=y at *;refine BA (by kernel_rfl) Tryz.func36 rfl rfl rfl (by simp[Bi,Later]) (by simp[BN,Ah.live]) ?_;simp[hm];refine AJ 13 (by kernel_rfl) ?_;simp[hlo];by_cases hlt:i<bs.length
 · have hb:=hb0 hlt;have w2:IntKind.i64.wrap ((i:Int)+1)=(i:Int)+1:=Ad (by omega) (by omega);have hw:IntKind.i64.wrap (lo+IntKind.i64.wrap y)=bM (lo+bM y):=rfl;refine AJ 10 (by kernel_rfl) ?_;simp[zz2 hlt,hlt];refine AJ 15 (by kernel_rfl) ?_;simp[hb,hw,w2];exact⟨[0],by simp⟩
 · refine AJ 10 (by kernel_rfl) ?_;simp[zz3 hlt,hlt];exact⟨[0],by simp⟩
theorem AG (c:B9) (n:Int) (h:c.ok) (hn:n≤256):CG Tryz.prog 15 [.ptr 0 0,.d (.int .i64 n)] [Ce c] (.d (.int .i64 (Au c n))) [Ce (Ag c n)]:=by
 have hb:=Uq c h;unfold Au Ag;refine DZ (by kernel_rfl) Tryz.func15 rfl rfl rfl (by simp[Bi,Later]) (by simp[BN,Ah.live]) ?_;by_cases h0:n≤0
 · simp[h0];exact⟨[0],by simp⟩
 · simp[h0,show 0<n by omega,hn,show ¬ 256<n by omega];refine Ac (hb) [] [0] (by simp) ?_;simp[show ¬ n=0 by omega];exact⟨[0],by simp⟩
theorem FY (c:B9) (n:Int) (h:c.ok) (hn:n≤256):CG Tryz.prog 34 [.ptr 0 0,.d (.int .i64 n)] [Ce c] (.d (.bool (GQ c n))) [Ce (Ag c n)]:=by
 have hb:=AG c n h hn;refine DZ (by kernel_rfl) Tryz.func34 rfl rfl rfl (by simp[Bi,Later]) (by simp[BN,Ah.live]) ?_;simp;refine Ac (hb) [] [0] (by simp) ?_;simp;exact⟨[0],by simp[GQ]⟩
theorem GV (c:B9) (xs:List Int) (h:c.ok) (h0:0<xs.length) (hn:xs.length≤256):CG Tryz.prog 35 [.ptr 0 0,.d (Dh 3 (e1 AC) xs)] [Ce c] (.d (.int .i64 (xs.getD (Au c xs.length).toNat 0))) [Ce (Ag c xs.length)]:=by
 have hb:=AG c xs.length h (by omega);have hr:=AV c (n:=xs.length) (by omega);generalize Au c xs.length=q at *;generalize Ag c xs.length=c' at *;obtain⟨k,rfl⟩:∃ k:Nat,q=k:=⟨q.toNat,by omega⟩;have hg:xs[k]? = some (xs.getD k 0):=by rw[List.getD_eq_getElem?_getD,zz0 (by omega)];rfl
 rw[Int.toNat_natCast];generalize xs.getD k 0=y at *;refine DZ (by kernel_rfl) Tryz.func35 rfl rfl rfl (by simp[Bi,Later]) (by simp[BN,Ah.live]) ?_;simp;refine Ac (hb) [] [0] (by simp) ?_;simp[hg];exact⟨[0],by simp⟩
end
end Go.Proofs.YtnjedabjbeipeaaGreat
