/-
  The cursor of the draws: bytes mixed with numbers; its walk.
  Conditions: those typed in each theorem.
-/
import Derived.Test.YtnjedabjbeipeaaNc
namespace Go.Proofs.Ytnjedabjbeipeaa
open Go.RowKit Go.ChangeShapes Go.WideShapes Go.ChangeAt
set_option linter.unusedSimpArgs false
set_option linter.unusedVariables false
set_option maxRecDepth 100000
set_option maxHeartbeats 10000000
section
structure EE where
 bs:List Int
 i:Nat
 h:Int
def NA (x:Int):D:=.int .u8 x
abbrev FS (c:EE):Ag:=.var 105 [.d (.sl 5 (c.bs.map (e1 NA))),.d (.int .i64 c.i),.d (.int .i64 c.h)]
def EE.ok (c:EE):Prop:=c.i≤c.bs.length∧c.bs.length≤1048576
def aM (x:Int):Int:=IntKind.i64.wrap x
def P5 (bs:List Int):Nat→Int
 | 0=>aM (33117+bs.length)
 | k+1=>Cp (aM (aM (aM (P5 bs k*131)+aM (bs.getD k 0))+7)) 1073741823
def Iw (bs:List Int):EE:=⟨bs,0,P5 bs (min bs.length 4000)⟩
def VM (c:EE):Int:=aM (aM (c.h*6364136223846793005)+1442695040888963407)
def WX (c:EE):Int:=Cp (Bd (DB (VM c) 33) (DB (VM c) 45)) 255
def RT (c:EE):Int:=if c.i<c.bs.length then Cp (aM (WX c+aM (c.bs.getD c.i 0))) 255 else WX c
def VG (c:EE):EE:=⟨c.bs,if c.i<c.bs.length then c.i+1 else c.i,VM c⟩
def AP (c:EE) (n:Int):Int:=if n≤0 then 0 else (RT c).tmod n
def Ai (c:EE) (n:Int):EE:=if n≤0 then c else VG c
def US (c:EE) (n:Int):Bool:=AP c n==0
theorem Z8 (a:Int):Cp a 255=a % 256:=by
 unfold Cp;rw[BitVec.toNat_and,GD,GD,show ((255:Int) % 18446744073709551616).toNat=2 ^ 8 - 1 from rfl,Nat.and_two_pow_sub_one_eq_mod,Af (by omega) (by omega)];omega
theorem Zt (c:EE):0≤RT c∧RT c≤255:=by
 unfold RT WX;split<;>rw[Z8]<;>omega
theorem cP {c:EE} (h:c.ok):(VG c).ok:=by
 obtain⟨h1,h2⟩:=h;refine⟨?_,h2⟩;unfold VG;simp only;split<;>omega
theorem AD {c:EE} {n:Int} (h:c.ok):(Ai c n).ok:=by
 unfold Ai;split
 · exact h
 · exact cP h
theorem Bc (c:EE) {n:Int} (h:0<n):0≤AP c n∧AP c n<n:=by
 unfold AP;rw[if_neg (by omega)];have:=Zt c;rw[Int.tmod_eq_emod_of_nonneg this.1];exact⟨Int.emod_nonneg _ (by omega),Int.emod_lt_of_pos _ h⟩
theorem mC {bs:List Int} (h:bs.length≤1048576):(Iw bs).ok:=⟨Nat.zero_le _,h⟩
theorem V8 {bs:List Int} {k:Nat} (h:k<bs.length):bs[k]? = some (bs.getD k 0):=by
 rw[List.getD_eq_getElem?_getD,zz0 h];rfl
attribute [local simp] NA
theorem VC (bs:List Int) (h:bs.length≤1048576):BS Try.prog 29 [.d (.sl 5 (bs.map (e1 NA)))] [] (.ptr 0 0) [FS (Iw bs)]:=by
 have hc:Iw bs=⟨bs,0,P5 bs (min bs.length 4000)⟩:=rfl;have h0:IntKind.i64.wrap (33117+bs.length)=P5 bs 0:=rfl;rw[hc];refine Bl (by kernel_rfl) Try.func29 rfl rfl rfl (by simp[AZ,Later]) (by simp[Bi,Ag.live]) ?_;simp[h0];refine AY [true,false,false,true,true] (fun k:Nat=>k≤bs.length∧k≤4000) (fun k:Nat=>[(3,.d (.int .i64 (P5 bs k))),(4,.d (.int .i64 k))]) (fun k:Nat=>[]) (fun k:Nat=>4000 - k) 0 ?_ ?_ ?_
 · omega
 · exact⟨[],by simp⟩
 rintro I S μ hI hS hμ k ⟨hk1,hk2⟩;by_cases hlt:k<bs.length
 · have hd:decide (k<bs.length)=true:=zz2 hlt;by_cases hl4:k<4000
   · have hd4:decide ((k:Int)<4000)=true:=zz2 (by omega);have hl4':(k:Int)<4000:=by omega
     have hb:=V8 hlt;have hn:P5 bs (k+1)=Cp (IntKind.i64.wrap (IntKind.i64.wrap (IntKind.i64.wrap (P5 bs k*131)+IntKind.i64.wrap (bs.getD k 0))+7)) 1073741823:=rfl;have w2:IntKind.i64.wrap ((k:Int)+1)=(k:Int)+1:=Af (by omega) (by omega);generalize bs.getD k 0=y at *;simp[hd,hd4,hl4',hb,w2,←hn];exact Ae hI hS hμ (k+1) (by omega) (by omega) ⟨[],by simp⟩
   · obtain rfl:k=4000:=by omega
     have hm:min bs.length 4000=4000:=by omega
     rw[hm];have hd5:decide ((4000:Int)<(bs.length:Int))=true:=zz2 (by omega);simp[hd,hd5];exact⟨[0],by simp⟩
 · obtain rfl:k=bs.length:=by omega
   have hm:min bs.length 4000=bs.length:=by omega
   rw[hm];simp[zz3 hlt,hlt];exact⟨[0],by simp⟩
theorem S4 (c:EE) (h:c.ok):BS Try.prog 99 [.ptr 0 0] [FS c] (.d (.int .i64 (RT c))) [FS (VG c)]:=by
 obtain⟨bs,i,hh⟩:=c;obtain⟨h1,h2⟩:=h;simp only at h1 h2;have hm:IntKind.i64.wrap (IntKind.i64.wrap (hh*6364136223846793005)+1442695040888963407)=VM ⟨bs,i,hh⟩:=rfl;have hlo:Cp (Bd (DB (VM ⟨bs,i,hh⟩) 33) (DB (VM ⟨bs,i,hh⟩) 45)) 255=WX ⟨bs,i,hh⟩:=rfl;have hv:RT ⟨bs,i,hh⟩=if i<bs.length then Cp (aM (WX ⟨bs,i,hh⟩+aM (bs.getD i 0))) 255 else WX ⟨bs,i,hh⟩:=rfl;have hcc:VG ⟨bs,i,hh⟩=⟨bs,if i<bs.length then i+1 else i,VM ⟨bs,i,hh⟩⟩:=rfl;rw[hcc,hv];generalize VM ⟨bs,i,hh⟩=m at *;generalize WX ⟨bs,i,hh⟩=lo at *;have hb0:i<bs.length→bs[i]? = some (bs.getD i 0):=V8;generalize bs.getD i 0=y at *;refine Bl (by kernel_rfl) Try.func99 rfl rfl rfl (by simp[AZ,Later]) (by simp[Bi,Ag.live]) ?_;simp[hm];refine AJ 13 (by kernel_rfl) ?_;simp[hlo];by_cases hlt:i<bs.length
 · have hb:=hb0 hlt;have w2:IntKind.i64.wrap ((i:Int)+1)=(i:Int)+1:=Af (by omega) (by omega);have hw:IntKind.i64.wrap (lo+IntKind.i64.wrap y)=aM (lo+aM y):=rfl;refine AJ 10 (by kernel_rfl) ?_;simp[zz2 hlt,hlt];refine AJ 15 (by kernel_rfl) ?_;simp[hb,hw,w2];exact⟨[0],by simp⟩
 · refine AJ 10 (by kernel_rfl) ?_;simp[zz3 hlt,hlt];exact⟨[0],by simp⟩
theorem AO (c:EE) (n:Int) (h:c.ok) (hn:n≤256):BS Try.prog 44 [.ptr 0 0,.d (.int .i64 n)] [FS c] (.d (.int .i64 (AP c n))) [FS (Ai c n)]:=by
 have hb:=S4 c h;unfold AP Ai;refine Cv (by kernel_rfl) Try.func44 rfl rfl rfl (by simp[AZ,Later]) (by simp[Bi,Ag.live]) ?_;by_cases h0:n≤0
 · simp[h0];exact⟨[0],by simp⟩
 · simp[h0,show 0<n by omega,hn,show ¬ 256<n by omega];refine Ac (hb) [] [0] (by simp) ?_;simp[show ¬ n=0 by omega];exact⟨[0],by simp⟩
theorem LG (c:EE) (n:Int) (h:c.ok) (hn:n≤256):BS Try.prog 78 [.ptr 0 0,.d (.int .i64 n)] [FS c] (.d (.bool (US c n))) [FS (Ai c n)]:=by
 have hb:=AO c n h hn;refine Cv (by kernel_rfl) Try.func78 rfl rfl rfl (by simp[AZ,Later]) (by simp[Bi,Ag.live]) ?_;simp;refine Ac (hb) [] [0] (by simp) ?_;simp;exact⟨[0],by simp[US]⟩
end
theorem Rd.sub {w:World} {G:Nat→Prop} {t:TypeId} {es:List (List D)} {v:Value} (h:Rd w G (.sl t es) v):∀ e∈es,∀ d∈e,∃ u,Rd w G d u:=by
 intro e he d hd
 cases h with
 | nil=>simp at he
 | sl _ _ b o c s u hn hcap hG hs hc hr =>
   obtain⟨i,hi,rfl⟩:=List.mem_iff_getElem.1 he;obtain⟨j,hj,rfl⟩:=List.mem_iff_getElem.1 hd;exact⟨_,hr i _ j _ (zz0 hi) (zz0 hj)⟩
theorem Rds.cell {w:World} {G:Nat→Prop} {ds:List D} {vs:List Value} {f:List Nat} (h:Rds w G ds vs f) {d:D} (hd:d∈ds):∃ u,Rd w G d u:=by
 obtain⟨i,hi,rfl⟩:=List.mem_iff_getElem.1 hd;obtain⟨v,_,hr⟩:=h.2.2 i _ (zz0 hi);exact⟨v,hr⟩
theorem yT {w:World} {G:Nat→Prop} {x:X} {v:Value} (h:fH w G x v):∀ (i:Nat) (y:X) (u:Value),[x][i]? = some y→#[v][i]? = some u→fH w G y u:=by
 intro i y u hy hu
 match i with
 | 0=>simp at hy hu;subst hy hu;exact h
 | i+1=>simp at hy
abbrev BB:Type:=List Int
def Aq (x:BB):List D:=e1 (B3 3 (e1 Az)) x
abbrev Y3 (xs:List BB):D:=B3 26 Aq xs
abbrev Un (xs:List BB):X:=.d (Y3 xs)
def ID (m:Nat) (xs:List BB):Prop:=xs.length≤m∧∀ x∈xs,x.length≤m
abbrev Xr:Type:=Int×List BB
def FP (x:Xr):List D:=e2 Az (B3 26 Aq) x
abbrev cQ (x:Xr):X:=.agg (FP x)
def Yy (m:Nat) (x:Xr):Prop:=ID m x.2
theorem T9.sl_of {α:Type} {t:TypeId} {en:α→List D} {xs:List α} (h:T9 (B3 t en xs)):∀ x∈xs,∀ q∈en x,T9 q:=by
 intro x hx q hq
 cases h with
 | sl _ _ h=>exact h _ (List.mem_map_of_mem hx) q hq
theorem T9.ints {xs:List Int} {t:TypeId} (h:T9 (B3 t (e1 Az) xs)):∀ y∈xs,isI y:=fun y hy=>T9.i64 (T9.sl_of h y hy (Az y) (by simp[e1]))
def WF (v0:List Int) (f:Nat) (ns:List Ah):Nat→List Int
 | 0=>v0
 | k+1=>(WF v0 f ns k).set (f+k) (AF (WF v0 f ns k) ((ns[k]?).getD (0,0)).1*AF (WF v0 f ns k) ((ns[k]?).getD (0,0)).2)
theorem TQ {v0:List Int} {f:Nat} {ns:List Ah}:∀ k,(WF v0 f ns k).length=v0.length
 | 0=>rfl
 | k+1=>by simp[WF,TQ k]
theorem Ua {v0:List Int} {f:Nat} {ns:List Ah} (h:Cq v0):∀ k,Cq (WF v0 f ns k)
 | 0=>h
 | k+1=>M3 (Ua h k) (nR (DY _ _) (DY _ _))
def AR (x:AB):Nat:=1+x.1.toNat+x.2.1.length+x.2.2.1.length
def oR (x:AB) (inp:Int):List Int:=WV (AR x) inp x.1.toNat
def Wr (x:AB) (st:List Int) (inp:Int):List Int:=nP (oR x inp) (1+x.1.toNat) st st.length
def Bu (x:AB) (st:List Int) (inp:Int):List Int:=WF (Wr x st inp) (1+x.1.toNat+x.2.1.length) x.2.2.1 x.2.2.1.length
theorem YD {x:AB} {i:Int}:(oR x i).length=AR x:=TI _
theorem YJ {x:AB} {st:List Int} {i:Int}:(Wr x st i).length=AR x:=by unfold Wr;rw[TS,YD]
theorem aU {x:AB} {st:List Int} {i:Int}:(Bu x st i).length=AR x:=by unfold Bu;rw[TQ,YJ]
theorem dI {x:AB} {i:Int}:Cq (oR x i):=U6 _
theorem iX {x:AB} {st:List Int} {i:Int}:Cq (Wr x st i):=Vq dI _
theorem FV {x:AB} {st:List Int} {i:Int}:Cq (Bu x st i):=Ua iX _
theorem Ax {x:AB} (h:Aj x=true):(0≤x.1∧x.1≤20∧x.2.1.length≤12∧x.2.2.1.length≤300∧x.2.2.2.length≤16∧CW x=1+x.1+x.2.1.length+x.2.2.1.length) ∧
 (∀ s∈x.2.1,Dn s=true)∧(∀ y∈At x,0≤y∧y<2*(AR x:Int)) ∧
 ∀ (k:Nat) (a:Ah),x.2.2.1[k]? = some a→(0≤a.1∧a.1<2*(1+x.1+x.2.1.length+k))∧0≤a.2∧a.2<2*(1+x.1+x.2.1.length+k):=by
 simp only[Aj,Bool.and_eq_true,decide_eq_true_eq] at h;obtain⟨⟨⟨h1,h2⟩,h3⟩,h4⟩:=h;have hp:=Pq h1;refine⟨hp,zz8.1 h2,fun y hy=>?_,fun k a ha=>?_⟩
 · have:=AN.1 (zz8.1 h3 y hy);unfold AR;omega
 · cases hf:Ej (1+x.1+x.2.1.length+k) a with
   | false=>rw[NV ha hf] at h4;cases h4
   | true =>
     simp only[Ej,Bool.and_eq_true] at hf;have a1:=AN.1 hf.1;have a2:=AN.1 hf.2;omega
theorem Rb {vs:List Int} (hb:Cq vs) {i:Nat} {b:Int} (hi:vs[i]? = some b):∀ n,i<n→Ck vs n / 2 ^ i % 2=b
 | 0,h=>by omega
 | n+1,h=>by
   have hv:=hb b (zz6 hi);have hp:(0:Int)<2 ^ i:=Int.pow_pos (by omega);by_cases e:i=n
   · subst e;have hl:=Iq hb i;unfold Ck;rw[hi,Option.getD_some,Int.add_mul_ediv_right _ _ (by omega),Int.ediv_eq_zero_of_lt hl.1 hl.2];omega
   · have ih:=Rb hb hi n (by omega);obtain⟨d,hd⟩:∃ d,n=i+1+d:=⟨n - (i+1),by omega⟩
     have h2:(vs[n]?).getD 0*2 ^ n=((vs[n]?).getD 0*2 ^ d*2)*2 ^ i:=by
      rw[hd,Int.pow_add,Int.pow_succ];simp only[Int.mul_assoc,Int.mul_comm,Int.mul_left_comm]
     unfold Ck;rw[h2,Int.add_mul_ediv_right _ _ (by omega)];omega
theorem fQ {vs:List Int} (hb:Cq vs) (hl:vs.length≤60) {k:Nat} {b:Int} (h:vs[k]? = some b):DB (BP vs) k % 2=b:=by
 have hk:=(zz1.1 h).1;have h2:=Rb hb h vs.length hk;have hp:(0:Int)<2 ^ k:=Int.pow_pos (by omega);unfold DB;rw[Int.toNat_natCast,Nat.min_eq_left (by omega),ACB _ (by omega)];exact h2
end Go.Proofs.Ytnjedabjbeipeaa
