/-
  Cubes and covers by the program, by abstract walks.
  Conditions: those typed in each theorem.
-/
import Derived.Test.YtnjedabjbeipeaaTg
import Derived.Test.YtnjedabjbeipeaaLg
namespace Go.Proofs.Ytnjedabjbeipeaa
open Go.RowKit Go.ChangeShapes Go.WideShapes
set_option linter.unusedSimpArgs false
set_option linter.unusedVariables false
set_option maxRecDepth 100000
set_option maxHeartbeats 10000000
abbrev xcb (c:Ah):X:=.agg [.int .i64 c.1,.int .i64 c.2]
abbrev oU (L:List Ah):X:=.d (.sl 138 (L.map Ao))
abbrev xtb (n:Nat) (b:Int):X:=.agg [.int .i64 (n:Int),.int .i64 b]
def SW (b:Int) (c:Ah) (i:Nat):Bool:=(Cp (i:Int) c.1==c.2)&&!(GF b i==1)
def HD (n:Nat) (b:Int) (c:Ah):Bool:=(List.range (2 ^ n)).all fun i=>!SW b c i
theorem fS {n:Nat} {b:Int} {c:Ah} {i:Nat} (hi:i<2 ^ n) (h:SW b c i=true):HD n b c=false:=by
 unfold HD;rw[List.all_eq_false];exact⟨i,ACJ.2 hi,by simp[h]⟩
theorem Rw {n:Nat} {b:Int} {c:Ah} (h:∀ j,j<2 ^ n→SW b c j=false):HD n b c=true:=by
 unfold HD;rw[zz8];intro j hj;simp[h j (ACJ.1 hj)]
theorem bZ (n:Nat) (b:Int) (c:Ah) (h:Dg n b=true):CI Try.prog 162 [xtb n b,xcb c] (.d (.bool (HD n b c))):=by
 have hn:=Hq h;obtain⟨hsh,hm⟩:=EX hn;have hu:IntKind.u64.wrap (n:Int)=n:=Fb (by omega) (by omega);have kT:=fun i hi=>JX n i b h hi;have hno:=fun i hi h=>fS (n:=n) (b:=b) (c:=c) (i:=i) hi h;have hye:=Rw (n:=n) (b:=b) (c:=c);generalize HD n b c=R at *;generalize 2 ^ n=N at *;refine BD (by kernel_rfl) Try.func162 rfl rfl rfl ?_;simp;refine As [false,false,true,true,false,true] (fun i:Nat=>i≤N∧∀ j,j<i→SW b c j=false) (fun i:Nat=>[(5,.d (.int .i64 i))]) (fun i:Nat=>fun sl=>sl) (fun i:Nat=>N - i) 0 ?_ ?_ ?_
 · exact⟨Nat.zero_le _,fun j hj=>absurd hj (by omega)⟩
 · exact⟨[0,1],by simp⟩
 rintro I S μ hI hS hμ i ⟨hi,hall⟩;by_cases hlt:i<N
 · have w1:IntKind.i64.wrap ((i:Int)+1)=(i:Int)+1:=Af (by omega) (by omega);have hb:SW b c i=((Cp (i:Int) c.1==c.2)&&!(GF b i==1)):=rfl;have kT:=kT i hlt
   have hnx:SW b c i=false→∀ j,j<i+1→SW b c j=false:=fun e j hj=>by
    by_cases h:j=i
    · rw[h];exact e
    · exact hall j (by omega)
   rcases ACS (Cp (i:Int) c.1==c.2) with h1|h1
   · rcases ACS (GF b i==1) with h3|h3
     · rw[h1,h3] at hb;rw[h3] at kT;simp[hsh,hu,hlt,h1];refine Ab (kT) ?_;simp[w1];exact Ae hI hS hμ (i+1) ⟨by omega,hnx hb⟩ (by omega) ⟨[0,1],by simp⟩
     · rw[h1,h3] at hb;rw[h3] at kT;have hR:=hno i hlt hb;subst hR;simp[hsh,hu,hlt,h1];refine Ab (kT) ?_;simp[w1]
   · rw[h1,Bool.false_and] at hb;simp[hsh,hu,hlt,h1,w1];exact Ae hI hS hμ (i+1) ⟨by omega,hnx hb⟩ (by omega) ⟨[0,1],by simp⟩
 obtain rfl:i=N:=by omega
 have hR:=hye hall;subst hR;simp[hsh,hu,hlt]
theorem Vs (n:Nat) (c:Ah) (hn:n≤4):CI Try.prog 164 [.d (.int .i64 (n:Int)),xcb c] (.d (.bool (H1 n c))):=by
 have k0:=CU (n:Int) 0 4;rw[AN.2 (by omega:(0:Int)≤n∧(n:Int)≤4)] at k0;obtain⟨hsh,hm⟩:=EX hn;have hu:IntKind.u64.wrap (n:Int)=n:=Fb (by omega) (by omega);have k1:=CU c.1 0 (((2 ^ n:Nat):Int) - 1);have k2:=CU c.2 0 (((2 ^ n:Nat):Int) - 1);have hC:H1 n c=(rng c.1 0 (((2 ^ n:Nat):Int) - 1)&&(rng c.2 0 (((2 ^ n:Nat):Int) - 1)&&(DJ c.2 c.1==0))):=rfl;rw[hC];clear hC;generalize 2 ^ n=N at *;have w1:IntKind.i64.wrap ((N:Int) - 1)=(N:Int) - 1:=Af (by omega) (by omega);generalize rng c.1 0 ((N:Int) - 1)=r1 at *;generalize rng c.2 0 ((N:Int) - 1)=r2 at *;refine BD (by kernel_rfl) Try.func164 rfl rfl rfl ?_
 cases r1 with
 | false =>
   simp;refine Ab (k0) ?_;simp[hsh,hu,w1];refine Ab (k1) ?_;simp
 | true =>
   cases r2 with
   | false =>
     simp;refine Ab (k0) ?_;simp[hsh,hu,w1];refine Ab (k1) ?_;simp[hsh,hu,w1];refine Ab (k2) ?_;simp
   | true =>
     simp;refine Ab (k0) ?_;simp[hsh,hu,w1];refine Ab (k1) ?_;simp[hsh,hu,w1];refine Ab (k2) ?_;simp
theorem OU (n:Nat) (L:List Ah) (hn:n≤4) (hl:L.length≤1048576):CI Try.prog 148 [.d (.int .i64 (n:Int)),oU L] (.d (.bool (D0 n L))):=by
 have k0:=CU (n:Int) 0 4;rw[AN.2 (by omega:(0:Int)≤n∧(n:Int)≤4)] at k0;refine BD (by kernel_rfl) Try.func148 rfl rfl rfl ?_;simp;by_cases h81:L.length≤81
 case neg =>
  have hf:D0 n L=false:=by unfold D0;rw[zz3 h81];rfl
  refine Ab (k0) ?_;simp[show (81:Int)<(L.length:Int) by omega,show ¬ (L.length:Int)≤81 by omega,hf]
 have hC:D0 n L=L.all (H1 n):=by unfold D0;rw[zz2 h81];rfl
 rw[hC];refine Ab (k0) ?_;simp[show ¬ (81:Int)<(L.length:Int) by omega,show (L.length:Int)≤81 by omega];refine As [true,false,false,false,false,false,false,false,false,false,false,false,false,false,false,true,true,true] (fun i:Nat=>i≤L.length∧(L.take i).all (H1 n)=true) (fun i:Nat=>[(17,.d (.int .i64 i))]) (fun i:Nat=>fun sl=>sl) (fun i:Nat=>L.length - i) 0 ?_ ?_ ?_
 · exact⟨Nat.zero_le _,by simp⟩
 · exact⟨[],by simp⟩
 rintro I S μ hI hS hμ i ⟨hi,hall⟩;by_cases hlt:i<L.length
 · obtain⟨c,hc⟩:∃ c,L[i]? = some c:=⟨_,zz0 hlt⟩;have kc:=Vs n c hn;have hL:(Ao c).length=2:=rfl;have w1:IntKind.i64.wrap ((i:Int)+1)=(i:Int)+1:=Af (by omega) (by omega)
   cases hk:H1 n c with
   | false =>
     rw[hk] at kc;rw[In hc hk];simp[zz2 hlt,hc,hL,Ao];refine Ab (kc) ?_;simp
   | true =>
     rw[hk] at kc;simp[zz2 hlt,hc,hL,Ao];refine Ab (kc) ?_;simp[w1];exact Ae hI hS hμ (i+1) ⟨by omega,by rw[Fu hc,hall,hk];rfl⟩ (by omega) ⟨[],by simp⟩
 obtain rfl:i=L.length:=by omega
 rw[List.take_length] at hall;simp[hlt,zz3 hlt,hall]
def Gw (cs:List Ah) (i:Nat):Bool:=cs.any fun c=>Cp (i:Int) c.1==c.2
def T7 (n:Nat) (cs:List Ah):List Int:=(List.range (2 ^ n)).map fun i=>if Gw cs i=true then 1 else 0
theorem YF {n:Nat} {cs:List Ah}:(T7 n cs).length=2 ^ n:=by simp[T7]
theorem VI {n:Nat} {cs:List Ah}:Cq (T7 n cs):=FY fun y hy=>by split<;>omega
theorem Xw {n:Nat} {cs:List Ah} {i:Nat} (h:i<2 ^ n):(T7 n cs)[i]? = some (if Gw cs i=true then 1 else 0):=by
 unfold T7;rw[ACF,ACa h];rfl
theorem Wz (L:List Ah) (i:Nat) (hl:L.length≤1000):BS Try.prog 163 [.d (.int .i64 i),.ptr 0 0] [.var 118 [.d (.sl 138 (L.map Ao))]] (.d (.bool (Gw L i))) [.var 118 [.d (.sl 138 (L.map Ao))]]:=by
 have hno:(∀ c∈L,(Cp (i:Int) c.1==c.2)=false)→Gw L i=false:=fun h=>List.any_eq_false.2 fun c hc=>by rw[h c hc];simp
 have hye:∀ c∈L,(Cp (i:Int) c.1==c.2)=true→Gw L i=true:=fun c hc h=>List.any_eq_true.2 ⟨c,hc,h⟩;generalize Gw L i=R at *;refine Cv (by kernel_rfl) Try.func163 rfl rfl rfl (by simp[AZ,Later]) (by simp[Bi,Ag.live]) ?_;simp;refine As [true,false,false,false,false,false,true,true,true] (fun k:Nat=>k≤L.length∧∀ c∈L.take k,(Cp (i:Int) c.1==c.2)=false) (fun k:Nat=>[(8,.d (.int .i64 k))]) (fun k:Nat=>fun sl=>sl) (fun k:Nat=>L.length - k) 0 ?_ ?_ ?_
 · exact⟨Nat.zero_le _,by simp⟩
 · exact⟨[0],by simp⟩
 rintro I S μ hI hS hμ k ⟨hk,hall⟩;by_cases hlt:k<L.length
 · obtain⟨c,hc⟩:∃ c,L[k]? = some c:=⟨_,zz0 hlt⟩;have hL:(Ao c).length=2:=rfl;have w1:IntKind.i64.wrap ((k:Int)+1)=(k:Int)+1:=Af (by omega) (by omega);have hts:=Bh hc;rcases ACS (Cp (i:Int) c.1==c.2) with h1|h1
   · have hR:=hye c (zz6 hc) h1;subst hR;simp[zz2 hlt,hc,hL,Ao,h1];exact⟨[0],by simp⟩
   · simp[zz2 hlt,hc,hL,Ao,h1,w1]
     exact Ae hI hS hμ (k+1) ⟨by omega,fun d hd=>by
      rw[hts] at hd;rcases ACE.1 hd with hd|hd
      · exact hall d hd
      · rw[zz9.1 hd];exact h1⟩ (by omega) ⟨[0],by simp⟩
 obtain rfl:k=L.length:=by omega
 rw[List.take_length] at hall;have hR:=hno hall;subst hR;simp[hlt,zz3 hlt];exact⟨[0],by simp⟩
theorem W1 (n:Nat) (L:List Ah) (hn:n≤4) (hl:L.length≤1000):BS Try.prog 34 [.d (.int .i64 n),.fn 163 [.ptr 0 0]] [.var 118 [.d (.sl 138 (L.map Ao))]] (.agg [.d (.int .i64 n),.d (.int .i64 (BP (T7 n L)))]) [.var 118 [.d (.sl 138 (L.map Ao))]]:=by
 have kc:=fun i=>Wz L i hl;obtain⟨hsh,hm⟩:=EX hn;have hb':=VI (n:=n) (cs:=L);have hva:=fun i h=>Xw (n:=n) (cs:=L) (i:=i) h;have hT:BP (T7 n L)=Ck (T7 n L) (2 ^ n):=by unfold BP;rw[YF]
 rw[hT];clear hT;generalize T7 n L=us at *;have hu:IntKind.u64.wrap (n:Int)=n:=Fb (by omega) (by omega);generalize 2 ^ n=m at *;refine Cv (by kernel_rfl) Try.func34 rfl rfl rfl (by simp[AZ,Later]) (by simp[Bi,Ag.live]) ?_;simp;refine AY [true,true,false,false,true,true,true] (fun i:Nat=>i≤m) (fun i:Nat=>[(6,.d (.int .i64 i))]) (fun i:Nat=>[(2,.var 62 [.d (.int .i64 n),.d (.int .i64 (Ck us i))])]) (fun i:Nat=>m - i) 0 ?_ ?_ ?_
 · exact Nat.zero_le _
 · exact⟨[0,1,2],by simp[Ck]⟩
 rintro I S μ hI hS hμ i hi;by_cases hlt:i<m
 · have k:=kc i;have w1:IntKind.i64.wrap ((i:Int)+1)=(i:Int)+1:=Af (by omega) (by omega);have w2:IntKind.u64.wrap (i:Int)=i:=Fb (by omega) (by omega);have hx1:=hva i hlt
   cases hz:Gw L i with
   | false =>
     rw[hz] at k hx1;rw[if_neg (by simp)] at hx1;have h1:=Lh hx1;simp[hsh,hu,hlt,IH,Kb];refine Ac (k) [] [0] (by simp) ?_;simp[w1];exact Ae hI hS hμ (i+1) (by omega) (by omega) ⟨[0,1,2],by simp[h1]⟩
   | true =>
     rw[hz] at k hx1;rw[if_pos rfl] at hx1;have h1:=Nh hb' hx1 (by omega);simp[hsh,hu,hlt,IH,Kb];refine Ac (k) [] [0] (by simp) ?_;simp[w1,w2,h1];exact Ae hI hS hμ (i+1) (by omega) (by omega) ⟨[0,1,2],by simp⟩
 · obtain rfl:i=m:=by omega
   simp[hsh,hu,hlt];exact⟨[0],by simp⟩
theorem V5 (n:Nat) (L:List Ah) (hn:n≤4) (hl:L.length≤1000) (h:D0 n L=true):CI Try.prog 145 [.d (.int .i64 n),oU L] (.agg [.int .i64 n,.int .i64 (BP (T7 n L))]):=by
 have k:=W1 n L hn hl;have k0:=OU n L hn (by omega);rw[h] at k0;generalize BP (T7 n L)=u at *;refine BD (by kernel_rfl) Try.func145 rfl rfl rfl ?_;simp;refine Ab (k0) ?_;simp;refine Ac (k) [] [0] (by simp) ?_;simp
end Go.Proofs.Ytnjedabjbeipeaa
