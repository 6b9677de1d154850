/-
  Graphs: the count of nodes, roots, valid graphs, by abstract walks.
  Conditions: those typed in each theorem.
-/
import Derived.Test.YtnjedabjbeipeaaGreatDa
namespace Go.Proofs.YtnjedabjbeipeaaGreat
open Go.RowKit Go.ChangeShapes Go.WideShapes
set_option linter.unusedSimpArgs false
set_option linter.unusedVariables false
set_option maxRecDepth 100000
set_option maxHeartbeats 10000000
abbrev Ge (x:AK):X:=.agg (Ao 57 63 x)
def Bw (x:AK):Int:=if DM x.1 0 20=true∧x.2.1.length≤12∧x.2.2.1.length≤300∧x.2.2.2.length≤16 then 1+x.1+x.2.1.length+x.2.2.1.length else 0
theorem Df (x:AK) (h1:0≤x.1∧x.1≤20) (h2:x.2.1.length≤12) (h3:x.2.2.1.length≤300) :
 Bx Tryz.prog 56 [Ge x] (.d (.int .i64 (1+x.1+x.2.1.length+x.2.2.1.length))):=by
 refine A5 (by kernel_rfl) Tryz.func56 rfl rfl rfl ?_;have w1:IntKind.i64.wrap (1+x.1)=1+x.1:=Ad (by omega) (by omega);have w2:IntKind.i64.wrap (1+x.1+x.2.1.length)=1+x.1+x.2.1.length:=Ad (by omega) (by omega);have w3:IntKind.i64.wrap (1+x.1+x.2.1.length+x.2.2.1.length)=1+x.1+x.2.1.length+x.2.2.1.length:=Ad (by omega) (by omega);simp[Ao,w1,w2,w3]
theorem PG (x:AK):Bx Tryz.prog 63 [Ge x] (.d (.int .i64 (Bw x))):=by
 refine A5 (by kernel_rfl) Tryz.func63 rfl rfl rfl ?_;simp[Ao];refine Ab (E8 _ _ _) ?_
 skip
 unfold Bw;rcases ABu (DM x.1 0 20) with h1|h1
 case inr=>simp[h1]
 by_cases h2:x.2.1.length≤12
 case neg=>simp[h1,h2,show (12:Int)<x.2.1.length by omega]
 by_cases h3:x.2.2.1.length≤300
 case neg=>simp[h1,h2,h3,show ¬ (12:Int)<x.2.1.length by omega,show (300:Int)<x.2.2.1.length by omega]
 by_cases h4:x.2.2.2.length≤16
 case neg=>simp[h1,h2,h3,h4,show ¬ (12:Int)<x.2.1.length by omega,show ¬ (300:Int)<x.2.2.1.length by omega,show (16:Int)<x.2.2.2.length by omega]
 simp[h1,h2,h3,h4,show ¬ (12:Int)<x.2.1.length by omega,show ¬ (300:Int)<x.2.2.1.length by omega,show ¬ (16:Int)<x.2.2.2.length by omega];refine Ab (Df x (by simpa [DM] using h1) h2 h3) ?_
 skip
 simp
theorem Bt (x:AK):Bx Tryz.prog 33 [Ge x] (.d (.int .i64 (Bw x))):=by
 refine A5 (by kernel_rfl) Tryz.func33 rfl rfl rfl ?_;simp[Ao];refine Ab (EN _ _ _) ?_;simp;unfold Bw;rcases ABu (DM x.1 0 20) with h1|h1
 case inr=>simp[h1]
 by_cases h2:x.2.1.length≤12
 case neg=>simp[h1,h2,show (12:Int)<x.2.1.length by omega]
 by_cases h3:x.2.2.1.length≤300
 case neg=>simp[h1,h2,h3,show ¬ (12:Int)<x.2.1.length by omega,show (300:Int)<x.2.2.1.length by omega]
 by_cases h4:x.2.2.2.length≤16
 case neg=>simp[h1,h2,h3,h4,show ¬ (12:Int)<x.2.1.length by omega,show ¬ (300:Int)<x.2.2.1.length by omega,show (16:Int)<x.2.2.2.length by omega,show ¬ (x.2.2.2.length:Int)≤16 by omega]
 have h0:=AP.1 h1;have w1:IntKind.i64.wrap (1+x.1)=1+x.1:=Ad (by omega) (by omega);have w2:IntKind.i64.wrap (1+x.1+x.2.1.length)=1+x.1+x.2.1.length:=Ad (by omega) (by omega);have w3:IntKind.i64.wrap (1+x.1+x.2.1.length+x.2.2.1.length)=1+x.1+x.2.1.length+x.2.2.1.length:=Ad (by omega) (by omega);simp[h1,h2,h3,h4,show ¬ (12:Int)<x.2.1.length by omega,show ¬ (300:Int)<x.2.2.1.length by omega,show ¬ (16:Int)<x.2.2.2.length by omega,w1,w2,w3]
theorem Lp {x:AK} (h:Bw x≠0):0≤x.1∧x.1≤20∧x.2.1.length≤12∧x.2.2.1.length≤300∧x.2.2.2.length≤16∧Bw x=1+x.1+x.2.1.length+x.2.2.1.length:=by
 unfold Bw at h ⊢;split
 · rename_i hc;have:=AP.1 hc.1;exact⟨this.1,this.2,hc.2.1,hc.2.2.1,hc.2.2.2,rfl⟩
 · rename_i hc;rw[if_neg hc] at h;exact absurd rfl h
theorem BF (x:AK) (h1:0≤x.1∧x.1≤20) (h2:x.2.1.length≤12):Bx Tryz.prog 51 [Ge x] (.d (.int .i64 (1+x.1+x.2.1.length))):=by
 refine A5 (by kernel_rfl) Tryz.func51 rfl rfl rfl ?_;have w1:IntKind.i64.wrap (1+x.1)=1+x.1:=Ad (by omega) (by omega);have w2:IntKind.i64.wrap (1+x.1+x.2.1.length)=1+x.1+x.2.1.length:=Ad (by omega) (by omega);simp[Ao,w1,w2]
theorem BE (x:AK) (h1:0≤x.1∧x.1≤20) (h2:x.2.1.length≤12):Bx Tryz.prog 42 [Ge x] (.d (.int .i64 (1+x.1+x.2.1.length))):=by
 refine A5 (by kernel_rfl) Tryz.func42 rfl rfl rfl ?_;have w1:IntKind.i64.wrap (1+x.1)=1+x.1:=Ad (by omega) (by omega);have w2:IntKind.i64.wrap (1+x.1+x.2.1.length)=1+x.1+x.2.1.length:=Ad (by omega) (by omega);simp[Ao,w1,w2]
def Jy (n:Int):Prop:=-9223372036854775808≤n∧n≤9223372036854775807
theorem Hl (n m:Int) (hn:Jy n) (hm:0≤m∧m≤1048576):Bx Tryz.prog 40 [.d (.int .i64 n),.d (.int .i64 m)] (.d (.bool (DM n 0 (2*m - 1)))):=by
 refine A5 (by kernel_rfl) Tryz.func40 rfl rfl rfl ?_;by_cases h0:0≤n
 · have hq:=M5 h0 hn.2;simp[h0,hq,DM];omega
 · simp[h0,DM]
def bN (x:AK) (k:Nat):List Int:=x.2.2.2++((x.2.1.map (·.2.2)).take k).flatten
def Ay (x:AK):List Int:=x.2.2.2++(x.2.1.map (·.2.2)).flatten
theorem U2 {x:AK} {k:Nat} {s:Cr} (h:x.2.1[k]? = some s):bN x (k+1)=bN x k++s.2.2:=by
 unfold bN;rw[Ba (x:=s.2.2) (by rw[ABz,h];rfl),AB5,AB2];simp
theorem FU {x:AK}:bN x x.2.1.length=Ay x:=by
 unfold bN Ay;rw[AB8 (by simp)]
theorem K2 {ls:List (List Int)} {M:Nat} (h:∀ l∈ls,l.length≤M):∀ k:Nat,((ls.take k).flatten).length≤k*M
 | 0=>by simp
 | k+1=>by
   have ih:=K2 h k
   cases hk:ls[k]? with
   | none =>
     have:=List.getElem?_eq_none_iff.1 hk;rw[AB8 (by omega)];rw[AB8 (by omega)] at ih;rw[Nat.succ_mul];omega
   | some l =>
     rw[Ba hk,AB5,AB0,Nat.succ_mul];have:=h l (zz6 hk);have e:[l].flatten.length=l.length:=by simp
     omega
theorem FR {x:AK} {k M:Nat} (h:∀ s∈x.2.1,s.2.2.length≤M):(bN x k).length≤x.2.2.2.length+k*M:=by
 unfold bN;rw[AB0];have:=K2 (ls:=x.2.1.map (·.2.2)) (M:=M) (by intro l hl;obtain⟨s,hs,rfl⟩:=ABc.1 hl;exact h s hs) k;omega
theorem Uf (xs:List Int) (h:xs.length≤1048576):Bx Tryz.prog 87 [.d (Dh 3 (e1 AC) xs)] (.d (Dh 3 (e1 AC) xs)):=by
 refine A5 (by kernel_rfl) Tryz.func87 rfl rfl rfl ?_;simp;refine Ak As rfl (by simp) rfl (by simp) (by simp) (by first | (simp;done)|(simp;omega)) (by simp[AR,AL]) ?_;simp
theorem Jl (x:AK) (hx:Cz 1048576 x) (hn:x.2.1.length≤12):Bx Tryz.prog 62 [Ge x] (.d (Dh 3 (e1 AC) (Ay x))):=by
 obtain⟨f1,f2,f3,f5⟩:=hx;refine A5 (by kernel_rfl) Tryz.func62 rfl rfl rfl ?_;simp[Ao];refine Ak As rfl (by simp) rfl (by simp) (by simp) (by first | (simp;done)|(simp;omega)) (by simp[AR,AL]) ?_;simp;refine AB [false,true,false,true,true] (fun k:Nat=>k≤x.2.1.length) (fun k:Nat=>[(3,.ref 2),(4,.d (.int .i64 k))]) (fun k:Nat=>[(1,.dead),(2,.arr 3 true ((bN x k).map (e1 AC)))]) (fun k:Nat=>x.2.1.length - k) 0 ?_ ?_ ?_
 · simp
 · exact⟨[0,1,2],by simp[bN]⟩
 rintro I S μ hI hS hμ k hk;by_cases hlt:k<x.2.1.length
 · have hx1:x.2.1[k]? = some x.2.1[k]:=zz0 hlt;have hL:(AY x.2.1[k]).length=3:=rfl;have w2:IntKind.i64.wrap ((k:Int)+1)=(k:Int)+1:=Ad (by omega) (by omega);have hl:=f2 _ (ABt hlt);have hnext:=U2 hx1;have hrl:=FR (x:=x) (k:=k) (M:=1048576) f2;generalize x.2.1[k]=s at *;have hd:decide (k<x.2.1.length)=true:=zz2 hlt;simp[hd,hx1,hL,AY];refine Ak As rfl (by simp) rfl (by simp) (by simp) (by first | (simp;done)|(simp;omega)) (by simp[AR,AL]) ?_;simp[w2];exact Ae hI hS hμ (k+1) (by omega) (by omega) ⟨[0,1,3],by simp[hnext]⟩
 · have hk':k=x.2.1.length:=by omega
   subst hk';have hr:bN x x.2.1.length=Ay x:=FU;simp[hlt,hr]
theorem Iy (x:AK) (hx:Cz 1048576 x) (hn:x.2.1.length≤12):Bx Tryz.prog 53 [Ge x] (.d (Dh 3 (e1 AC) (Ay x))):=by
 obtain⟨f1,f2,f3,f5⟩:=hx;refine A5 (by kernel_rfl) Tryz.func53 rfl rfl rfl ?_;simp[Ao];refine Ab (Uf _ f5) ?_;simp;refine AB [false,false,false,true,false,false,false,false,false,false,true,true,true] (fun k:Nat=>k≤x.2.1.length) (fun k:Nat=>[(3,.ref 1),(12,.d (.int .i64 k))]) (fun k:Nat=>[(1,.arr 3 true ((bN x k).map (e1 AC)))]) (fun k:Nat=>x.2.1.length - k) 0 ?_ ?_ ?_
 · simp
 · exact⟨[0,1],by simp[bN]⟩
 rintro I S μ hI hS hμ k hk;by_cases hlt:k<x.2.1.length
 · have hx1:x.2.1[k]? = some x.2.1[k]:=zz0 hlt;have hL:(AY x.2.1[k]).length=3:=rfl;have w2:IntKind.i64.wrap ((k:Int)+1)=(k:Int)+1:=Ad (by omega) (by omega);have hl:=f2 _ (ABt hlt);have hnext:=U2 hx1;have hrl:=FR (x:=x) (k:=k) (M:=1048576) f2;generalize x.2.1[k]=s at *;have hd:decide (k<x.2.1.length)=true:=zz2 hlt;simp[hd,hx1,hL,AY];refine Ak As rfl (by simp) rfl (by simp) (by simp) (by first | (simp;done)|(simp;omega)) (by simp[AR,AL]) ?_;simp[w2];exact Ae hI hS hμ (k+1) (by omega) (by omega) ⟨[0,3],by simp[hnext]⟩
 · have hk':k=x.2.1.length:=by omega
   subst hk';have hr:bN x x.2.1.length=Ay x:=FU;simp[hlt,hr]
end Go.Proofs.YtnjedabjbeipeaaGreat
