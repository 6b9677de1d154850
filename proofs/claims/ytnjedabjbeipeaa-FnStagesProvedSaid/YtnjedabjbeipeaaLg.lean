/-
  Tables of cuts by the program: values above a cut, by abstract walks.
  Conditions: those typed in each theorem.
-/
import Derived.Test.YtnjedabjbeipeaaRi
namespace Go.Proofs.Ytnjedabjbeipeaa
open Go.RowKit Go.ChangeShapes Go.WideShapes
set_option linter.unusedSimpArgs false
set_option linter.unusedVariables false
set_option maxRecDepth 100000
set_option maxHeartbeats 10000000
theorem Vt {i k:Int}:∀ {c:List Int} {j p:Nat},(∀ q,q<p→c[q]?≠some k)→c[p]? = some k→MW i k c j=some (GF i (j+p))
 | [],_,_,_,h=>by simp at h
 | y::c,j,0,_,h=>by
   simp only[List.getElem?_cons_zero,Option.some.injEq] at h;unfold MW;rw[if_pos h];rfl
 | y::c,j,p+1,hq,h=>by
   simp only[List.getElem?_cons_succ] at h;have h0:y≠k:=fun e=>hq 0 (by omega) (by rw[e];rfl);unfold MW;rw[if_neg h0,Vt (j:=j+1) (p:=p) (fun q hlt=>by have:=hq (q+1) (by omega);simpa using this) h]
   congr 2
   omega
theorem lZ {x:AB} {c:List Int} {i:Int} {k p:Nat} (hk:k<AR x) (hq:∀ q,q<p→c[q]?≠some (k:Int)) (h:c[p]? = some (k:Int)):HL x c i k=GF i p:=by
 rw[Qt hk,mV,Vt hq h,Nat.zero_add]
theorem XL {c:List Int} {k:Int} (h:∀ q,q<c.length→c[q]?≠some k):k∉c:=fun hm=>by
 obtain⟨q,hq,he⟩:=List.getElem_of_mem hm;exact h q hq (by rw[zz0 hq,he])
theorem K2 {x:AB} {c:List Int} {i:Int} {n v:Nat} {m:List Int} (h:(v:Int)∈c∨v<Aa x∨Av m v≠0):D2 x c i n v m=m:=by
 cases n with
 | zero=>rfl
 | succ n=>unfold D2;rw[if_pos h]
theorem ZQ {x:AB} {c:List Int} {i:Int} {n v:Nat} {m:List Int} (h1:(v:Int)∉c) (h2:Aa x≤v) (h3:Av m v=0):D2 x c i (n+1) v m=(D2 x c i n (B7 x v) (D2 x c i n (B2 x v) m)).set v (1+HL x c i v):=by
 have e:D2 x c i (n+1) v m=if (v:Int)∈c∨v<Aa x∨Av m v≠0 then m else (D2 x c i n (B7 x v) (D2 x c i n (B2 x v) m)).set v (1+HL x c i v):=rfl;rw[e,if_neg (by rintro (h|h|h)<;>first | exact h1 h|omega)]
theorem MP {x:AB} {c:List Int} {i:Int}:∀ (n v:Nat) (m:List Int),(D2 x c i n v m).length=m.length
 | 0,_,_=>rfl
 | n+1,v,m=>by
   have e:D2 x c i (n+1) v m=if (v:Int)∈c∨v<Aa x∨Av m v≠0 then m else (D2 x c i n (B7 x v) (D2 x c i n (B2 x v) m)).set v (1+HL x c i v):=rfl;rw[e];split
   · rfl
   · rw[ACh,MP n,MP n]
theorem gA {m:List Int} {v:Nat} {z:Int}:(m.map (e1 Az)).set v [D.int .i64 z]=(m.set v z).map (e1 Az):=by rw[List.map_set];rfl
abbrev bxG (x:AB):Ag:=.var 28 [.d (.int .i64 x.1),.d (B3 31 A7 x.2.1),.d (B3 60 Ao x.2.2.1),.d (B3 3 (e1 Az) x.2.2.2)]
theorem Oj (x:AB) (c:List Int) (i:Int) (hx:DQ 1048576 x) (hok:Aj x=true) (hc:c.length≤1048576):∀ (n v:Nat) (m:List Int),v<n→v<AR x→SJ x c i m →
 BS Try.prog 143 [T4 x,.d (.int .i64 v),.d (B3 3 (e1 Az) c),.d (.int .i64 i),.ref 0] [.arr 3 true (m.map (e1 Az))] (.d (.int .i64 (HL x c i v))) [.arr 3 true ((D2 x c i n v m).map (e1 Az))]:=by
 intro n
 induction n with
 | zero=>intro v m h;omega
 | succ n ih =>
   intro v m hn hv hmo;obtain⟨⟨n1,n2,n3,n4,n5,n6⟩,-,-,-⟩:=Ax hok;obtain⟨hF,hgl,hNi,hno⟩:=Bz hok;have hN:=Bn x;have hm1:=hmo.1;have hm2:=hmo.2 v;have hat:=CJ (lv:=m) (k:=(v:Int)) (by omega);rw[Int.toNat_natCast] at hat;have hgl':=MP (x:=x) (c:=c) (i:=i) (n+1) v m;generalize hM:D2 x c i (n+1) v m=M at *;refine Bl (by kernel_rfl) Try.func143 rfl rfl rfl (by simp[AZ,Later,hgl']) (by simp[Bi,Ag.live]) ?_;simp;refine AY [false,true,true,true,true,true,false,false,false,false,false,false,false,false,false,false,true,true,true] (fun k:Nat=>k≤c.length∧∀ q,q<k→c[q]?≠some (v:Int)) (fun k:Nat=>[(18,.d (.int .i64 k))]) (fun k:Nat=>[]) (fun k:Nat=>c.length - k) 0 ?_ ?_ ?_
   · exact⟨Nat.zero_le _,fun q hq=>by omega⟩
   · exact⟨[0,1],by simp⟩
   rintro I S μ hI hS hμ k ⟨hk,hnh⟩;by_cases hlt:k<c.length
   · have hx1:c[k]? = some c[k]:=zz0 hlt;have w2:IntKind.i64.wrap ((k:Int)+1)=(k:Int)+1:=Af (by omega) (by omega);have u2:IntKind.u64.wrap (k:Int)=k:=Fb (by omega) (by omega);have hd:decide (k<c.length)=true:=zz2 hlt;by_cases he:c[k]=(v:Int)
     · have hvv:HL x c i v=GF i k:=lZ hv hnh (by rw[hx1,he]);have hkp:D2 x c i (n+1) v m=m:=K2 (.inl (by rw[←he];exact AB7 hlt));rw[hkp] at hM;subst hM;rw[hvv];have hb:=Lo i k;rw[he] at hx1;simp[hd,hx1,u2,hb];exact⟨[0],by simp⟩
     · have hne:(c[k]==(v:Int))=false:=by simpa using he
       generalize c[k]=y at *;simp[hd,hx1,he,hne,w2]
       exact Ae hI hS hμ (k+1) ⟨by omega,fun q hq=>by
        by_cases e:q=k
        · rw[e,hx1];simpa using he
        · exact hnh q (by omega)⟩ (by omega) ⟨[0,1],by simp⟩
   have hk':k=c.length:=by omega
   subst hk';have hnc:=XL hnh;simp[hlt];refine Ab (It x v ⟨n1,n2⟩ n3 n4) ?_;simp;by_cases hf:v<Aa x
   · have hkp:D2 x c i (n+1) v m=m:=K2 (.inr (.inl hf));rw[hkp] at hM;subst hM;rw[Za hv hnc hf];simp[hf,show ¬ Aa x≤v by omega];exact⟨[0],by simp⟩
   have hfv:Aa x≤v:=by omega
   by_cases h0:Av m v≠0
   · have hkp:D2 x c i (n+1) v m=m:=K2 (.inr (.inr h0));rw[hkp] at hM;subst hM;have hva:HL x c i v=Av m v - 1:=by omega
     have hrg:=PY (x:=x) (c:=c) (i:=i) hv;have w5:IntKind.i64.wrap (Av m v - 1)=Av m v - 1:=Af (by omega) (by omega);have hne:(Av m v==0)=false:=by simpa using h0
     rw[hva];generalize Av m v=z at *;simp[hfv,hf,hv,show ¬ AR x≤v by omega,hat,hne,h0,w5];exact⟨[0],by simp⟩
   have h0:Av m v=0:=Decidable.of_not_not h0;obtain⟨ha,a1,a2,a3,a4,a5,a6⟩:=Cy hok (by omega) hv;have w1:IntKind.i64.wrap ((v:Int) - (1+x.1+x.2.1.length))=(v:Int) - (1+x.1+x.2.1.length):=Af (by omega) (by omega);have ht:((v:Int) - (1+x.1+x.2.1.length)).toNat=v - Aa x:=by omega
   have hL:(Ao (Al x v)).length=2:=rfl;have hn0:¬ (v:Int) - (1+x.1+x.2.1.length)<0:=by omega
   have q1:IntKind.i64.wrap ((Al x v).1.tdiv 2)=(B2 x v:Int):=by rw[Int.tdiv_eq_ediv_of_nonneg a1,a3];exact Af (by omega) (by omega)
   have q2:IntKind.i64.wrap ((Al x v).2.tdiv 2)=(B7 x v:Int):=by rw[Int.tdiv_eq_ediv_of_nonneg a2,a4];exact Af (by omega) (by omega)
   have hmA:=L0 hok n (B2 x v) m (by omega) hmo;have hA:=ih (B2 x v) m (by omega) (by omega) hmo;have hmB:=L0 hok n (B7 x v) _ (by omega) hmA;have hB:=ih (B7 x v) _ (by omega) (by omega) hmA;have hnw:=ZQ (i:=i) (n:=n) hnc hfv h0;rw[hnw] at hM;subst hM;have vA:=PY (x:=x) (c:=c) (i:=i) (k:=B2 x v) (by omega);have vB:=PY (x:=x) (c:=c) (i:=i) (k:=B7 x v) (by omega);have hva:=YH hok hv hnc hfv (i:=i);have x1:Bd (HL x c i (B2 x v)) ((Al x v).1 % 2)=(HL x c i (B2 x v)+(Al x v).1 % 2) % 2:=RV vA (by omega);have x2:Bd (HL x c i (B7 x v)) ((Al x v).2 % 2)=(HL x c i (B7 x v)+(Al x v).2 % 2) % 2:=RV vB (by omega);have b1:=Fm (Al x v).1;have b2:=Fm (Al x v).2;have x3:Cp ((HL x c i (B2 x v)+(Al x v).1 % 2) % 2) ((HL x c i (B7 x v)+(Al x v).2 % 2) % 2)=HL x c i v:=by rw[hva];exact ZZ (by omega) (by omega)
   rw[show (HL x c i (B2 x v)+(Al x v).1 % 2) % 2=(HL x c i (B2 x v)+(Al x v).1) % 2 by omega,show (HL x c i (B7 x v)+(Al x v).2 % 2) % 2=(HL x c i (B7 x v)+(Al x v).2) % 2 by omega] at x3;have hv01:=PY (x:=x) (c:=c) (i:=i) hv;have w6:IntKind.i64.wrap (1+HL x c i v)=1+HL x c i v:=Af (by omega) (by omega);have w7:IntKind.i64.wrap (1+HL x c i v - 1)=HL x c i v:=by rw[Af (by omega) (by omega)];omega
   have hlB:=hmB.1;have hlA:=hmA.1;rw[←hm1] at hlA hlB;generalize D2 x c i n (B7 x v) (D2 x c i n (B2 x v) m)=m2 at *;generalize D2 x c i n (B2 x v) m=m1 at *;have hat2:(m2.set v (1+HL x c i v))[v]? = some (1+HL x c i v):=by rw[ACf (by omega)]
   have hin:(m2[v]?).isSome=true:=by rw[zz0 (by omega)];rfl
   obtain⟨z2,hz2⟩:∃ z,m2[v]? = some z:=⟨_,zz0 (by omega)⟩;have hset:=gA (m:=m2) (v:=v) (z:=1+HL x c i v);generalize HL x c i v=z0 at *;generalize m2.set v (1+z0)=m3 at *;generalize HL x c i (B2 x v)=VA at *;generalize HL x c i (B7 x v)=VB at *;rw[h0] at hat;simp[hfv,hf,hv,show ¬ AR x≤v by omega,hat];refine AJ 9 (by kernel_rfl) ?_;simp;refine Ab (AW x ⟨n1,n2⟩ n3) ?_;simp[w1,ha,ht,hL,hn0,Ao,q1];refine AS [(7,[8,9,10]),(11,[]),(12,[])] (by kernel_rfl) ?_;simp[q1,b1];refine Au (hA) [] [0] (by simp) (by simp[Bg]) ?_;simp[b1,x1];refine AS [(7,[8,9,10]),(11,[]),(12,[])] (by kernel_rfl) ?_;simp[q2,b2];refine Au (hB) [] [0] (by simp) (by simp[Bg]) ?_;simp[b2,x2];simp[x3,w6,hz2,hset,hat2,w7];exact⟨[0],by simp⟩
theorem EX {n:Nat} (h:n≤4):IF 1 (n:Int)=((2 ^ n:Nat):Int)∧2 ^ n≤16:=by
 have:n=0∨n=1∨n=2∨n=3∨n=4:=by omega
 rcases this with rfl|rfl|rfl|rfl|rfl<;>decide
theorem Lq {vs:List Int} {i:Nat} {b:Int} (hb:Cq vs) (hi:vs[i]? = some b) (h:i≤60):GF (BP vs) i=b:=by
 unfold GF DB;have hl:i<vs.length:=(zz1.1 hi).1;have hp:=Rk hb hi vs.length hl;rw[Int.toNat_natCast,Nat.min_eq_left (by omega),ACB _ (Int.le_of_lt (Int.pow_pos (by omega)))];exact hp
theorem Nh {vs:List Int} {k:Nat} (hb:Cq vs) (hx:vs[k]? = some 1) (hk:k≤60):dZ (Ck vs k) (IF 1 (k:Int))=Ck vs (k+1):=Wm hb hx hk
theorem Lh {vs:List Int} {k:Nat} (hx:vs[k]? = some 0):Ck vs (k+1)=Ck vs k:=by simp[Ck,hx]
theorem Vw (x:AB) (c:List Int) (v i:Nat) (hx:DQ 1048576 x) (hok:Aj x=true) (hc:c.length≤1048576) (hv:v<AR x) :
 BS Try.prog 142 [.d (.int .i64 i),.ptr 0 0,.ptr 1 0,.ptr 2 0] [bxG x,.var 3 [.d (.int .i64 v)],.var 26 [.d (B3 3 (e1 Az) c)]] (.d (.bool (HL x c i v==1))) [bxG x,.var 3 [.d (.int .i64 v)],.var 26 [.d (B3 3 (e1 Az) c)]]:=by
 have kv:=Oj x c i hx hok hc (AR x) v (List.replicate (AR x) 0) hv hv fK;obtain⟨⟨n1,n2,n3,n4,n5,n6⟩,-,-,-⟩:=Ax hok;obtain⟨hF,hgl,hNi,hno⟩:=Bz hok;generalize D2 x c i (AR x) v (List.replicate (AR x) 0)=M at *;generalize HL x c i v=z at *;rw[List.map_replicate] at kv;refine Bl (by kernel_rfl) Try.func142 rfl rfl rfl (by simp[AZ,Later]) (by simp[Bi,Ag.live]) ?_;simp;refine AJ 7 (by kernel_rfl) ?_;simp;refine Ab (BL x ⟨n1,n2⟩ n3 n4) ?_;simp[hNi,show (AR x:Int)≤1099511627776 by omega];refine Ac (kv) [] [3] (by simp) ?_;simp;exact⟨[0,1,2],by simp⟩
theorem UZ (x:AB) (c:List Int) (v:Nat) (hx:DQ 1048576 x) (hok:Aj x=true) (hc:c.length≤4) (hv:v<AR x) :
 BS Try.prog 34 [.d (.int .i64 c.length),.fn 142 [.ptr 0 0,.ptr 1 0,.ptr 2 0]] [bxG x,.var 3 [.d (.int .i64 v)],.var 26 [.d (B3 3 (e1 Az) c)]] (.agg [.d (.int .i64 c.length),.d (.int .i64 (Ws x c v))]) [bxG x,.var 3 [.d (.int .i64 v)],.var 26 [.d (B3 3 (e1 Az) c)]]:=by
 have kc:=fun i=>Vw x c v i hx hok (by omega) hv;obtain⟨hsh,hm⟩:=EX hc;have hb:=Mr (c:=c) hv;have hvl:=LM (x:=x) (c:=c) (v:=v);have hva:=fun i h=>eP (x:=x) (c:=c) (v:=v) (i:=i) h;have hT:Ws x c v=Ck (Vc x c v) (2 ^ c.length):=by unfold Ws BP;rw[hvl]
 rw[hT];generalize Vc x c v=vs at *;have hu:IntKind.u64.wrap (c.length:Int)=c.length:=Fb (by omega) (by omega);generalize 2 ^ c.length=m at *;refine Cv (by kernel_rfl) Try.func34 rfl rfl rfl (by simp[AZ,Later]) (by simp[Bi,Ag.live]) ?_;simp;refine AY [true,true,false,false,true,true,true] (fun i:Nat=>i≤m) (fun i:Nat=>[(6,.d (.int .i64 i))]) (fun i:Nat=>[(4,.var 62 [.d (.int .i64 c.length),.d (.int .i64 (Ck vs i))])]) (fun i:Nat=>m - i) 0 ?_ ?_ ?_
 · exact Nat.zero_le _
 · exact⟨[0,1,2,3,4],by simp[Ck]⟩
 rintro I S μ hI hS hμ i hi;by_cases hlt:i<m
 · have k:=kc i;have w1:IntKind.i64.wrap ((i:Int)+1)=(i:Int)+1:=Af (by omega) (by omega);have w2:IntKind.u64.wrap (i:Int)=i:=Fb (by omega) (by omega);have hx1:=hva i hlt;have h01:=hb _ (zz6 hx1);generalize HL x c i v=z at *;simp[hsh,hu,hlt,IH,Kb];rcases (show z=0∨z=1 by omega) with rfl|rfl
   · have h1:=Lh hx1;refine Ac (k) [] [0,1,2] (by simp) ?_;simp[w1];exact Ae hI hS hμ (i+1) (by omega) (by omega) ⟨[0,1,2,3,4],by simp[h1]⟩
   · have h1:=Nh hb hx1 (by omega);refine Ac (k) [] [0,1,2] (by simp) ?_;simp[w1,w2,h1];exact Ae hI hS hμ (i+1) (by omega) (by omega) ⟨[0,1,2,3,4],by simp⟩
 · obtain rfl:i=m:=by omega
   simp[hsh,hu,hlt];exact⟨[0,1,2],by simp⟩
theorem TX (x:AB) (c:List Int) (v:Nat) (hx:DQ 1048576 x) (hok:Aj x=true) (hc:c.length≤4) (hv:v<AR x) :
 CI Try.prog 116 [N7 x,.d (.int .i64 v),.d (B3 3 (e1 Az) c)] (.agg [.int .i64 c.length,.int .i64 (Ws x c v)]):=by
 have k:=UZ x c v hx hok hc hv;refine BD (by kernel_rfl) Try.func116 rfl rfl rfl ?_;simp[AL];refine Ac (k) [] [0,1,2] (by simp) ?_;simp
theorem JX (n i:Nat) (b:Int) (h:Dg n b=true) (hi:i<2 ^ n):CI Try.prog 147 [.agg [.int .i64 n,.int .i64 b],.d (.int .i64 i)] (.d (.bool (GF b i==1))):=by
 have hn:=Hq h;obtain⟨hsh,hm⟩:=EX hn;have hu:IntKind.u64.wrap (n:Int)=n:=Fb (by omega) (by omega);have hu2:IntKind.u64.wrap (i:Int)=i:=Fb (by omega) (by omega);generalize 2 ^ n=m at *;have w1:IntKind.i64.wrap ((m:Int) - 1)=(m:Int) - 1:=Af (by omega) (by omega);have hr:rng (i:Int) 0 ((m:Int) - 1)=true:=AN.2 (by omega);have hb:=Lo b i;generalize GF b i=z at *;refine BD (by kernel_rfl) Try.func147 rfl rfl rfl ?_;simp;refine Ab (GX n b) ?_;simp[h,hu,hsh,w1];refine Ab (CU _ _ _) ?_;simp[hr,hu2,hb]
theorem VW (n i:Nat) (b:Int) (h:Dg n b=true) (hi:i<2 ^ n):BS Try.prog 146 [.d (.int .i64 i),.ptr 0 0] [.var 62 [.d (.int .i64 n),.d (.int .i64 b)]] (.d (.bool (!(GF b i==1)))) [.var 62 [.d (.int .i64 n),.d (.int .i64 b)]]:=by
 have k:=JX n i b h hi;generalize (GF b i==1)=t at *;refine Cv (by kernel_rfl) Try.func146 rfl rfl rfl (by simp[AZ,Later]) (by simp[Bi,Ag.live]) ?_;simp;refine Ab (k) ?_;simp;exact⟨[0],by simp⟩
theorem UM (vs:List Int) (n:Nat) (hb:Cq vs) (hl:vs.length=2 ^ n) (h:Dg n (BP vs)=true):BS Try.prog 34 [.d (.int .i64 n),.fn 146 [.ptr 0 0]] [.var 62 [.d (.int .i64 n),.d (.int .i64 (BP vs))]] (.agg [.d (.int .i64 n),.d (.int .i64 (BP (vs.map fun b=>1 - b)))]) [.var 62 [.d (.int .i64 n),.d (.int .i64 (BP vs))]]:=by
 have hc:=Hq h;have kc:=fun i hi=>VW n i (BP vs) h hi;obtain⟨hsh,hm⟩:=EX hc;obtain⟨us,hus⟩:∃ us,us=vs.map fun b=>1 - b:=⟨_,rfl⟩;have hb':Cq us:=by rw[hus];exact FY fun y hy=>by have:=hb y hy;omega
 have hva:∀ i,i<2 ^ n→us[i]? = some (1 - GF (BP vs) i):=fun i hi=>by
  have hx:vs[i]? = some vs[i]:=zz0 (by omega);rw[Lq hb hx (by omega),hus,ACF,hx];rfl
 have hT:BP us=Ck us (2 ^ n):=by unfold BP;rw[hus,ACH,hl]
 rw[←hus,hT];clear hT hus;have hu:IntKind.u64.wrap (n:Int)=n:=Fb (by omega) (by omega);generalize 2 ^ n=m at *;refine Cv (by kernel_rfl) Try.func34 rfl rfl rfl (by simp[AZ,Later]) (by simp[Bi,Ag.live]) ?_;simp;refine AY [true,true,false,false,true,true,true] (fun i:Nat=>i≤m) (fun i:Nat=>[(6,.d (.int .i64 i))]) (fun i:Nat=>[(2,.var 62 [.d (.int .i64 n),.d (.int .i64 (Ck us i))])]) (fun i:Nat=>m - i) 0 ?_ ?_ ?_
 · exact Nat.zero_le _
 · exact⟨[0,1,2],by simp[Ck]⟩
 rintro I S μ hI hS hμ i hi;by_cases hlt:i<m
 · have k:=kc i hlt;have w1:IntKind.i64.wrap ((i:Int)+1)=(i:Int)+1:=Af (by omega) (by omega);have w2:IntKind.u64.wrap (i:Int)=i:=Fb (by omega) (by omega);have hx1:=hva i hlt;have h01:=hb' _ (zz6 hx1);generalize GF (BP vs) i=z at *;simp[hsh,hu,hlt,IH,Kb];rcases (show z=1∨z=0 by omega) with rfl|rfl
   · have h1:=Lh hx1;refine Ac (k) [] [0] (by simp) ?_;simp[w1];exact Ae hI hS hμ (i+1) (by omega) (by omega) ⟨[0,1,2],by simp[h1]⟩
   · have h1:=Nh hb' hx1 (by omega);refine Ac (k) [] [0] (by simp) ?_;simp[w1,w2,h1];exact Ae hI hS hμ (i+1) (by omega) (by omega) ⟨[0,1,2],by simp⟩
 · obtain rfl:i=m:=by omega
   simp[hsh,hu,hlt];exact⟨[0],by simp⟩
theorem QT (vs:List Int) (n:Nat) (hb:Cq vs) (hl:vs.length=2 ^ n) (h:Dg n (BP vs)=true):CI Try.prog 118 [.agg [.int .i64 n,.int .i64 (BP vs)]] (.agg [.int .i64 n,.int .i64 (BP (vs.map fun b=>1 - b))]):=by
 have k:=UM vs n hb hl h;generalize BP (vs.map fun b=>1 - b)=u at *;generalize BP vs=b at *;refine BD (by kernel_rfl) Try.func118 rfl rfl rfl ?_;simp;refine Ab (GX n b) ?_;simp[h];refine Ac (k) [] [0] (by simp) ?_;simp
end Go.Proofs.Ytnjedabjbeipeaa
