/-
  Graphs: the count of nodes, roots, valid graphs, by abstract walks.
  Conditions: those typed in each theorem.
-/
import Derived.Test.YtnjedabjbeipeaaGreatDa
namespace Go.Proofs.YtnjedabjbeipeaaGreat
open Go.RowKit Go.ChangeShapes Go.WideShapes
set_option linter.unusedSimpArgs false
set_option linter.unusedVariables false
set_option maxRecDepth 100000
set_option maxHeartbeats 10000000
abbrev GD (x:AK):X:=.agg (Ao 57 63 x)
def Bz (x:AK):Int:=if DX x.1 0 20=true∧x.2.1.length≤12∧x.2.2.1.length≤300∧x.2.2.2.length≤16 then 1+x.1+x.2.1.length+x.2.2.1.length else 0
theorem Do (x:AK) (h1:0≤x.1∧x.1≤20) (h2:x.2.1.length≤12) (h3:x.2.2.1.length≤300) :
 BA Tryz.prog 56 [GD x] (.d (.int .i64 (1+x.1+x.2.1.length+x.2.2.1.length))):=by
 refine A6 (by kernel_rfl) Tryz.func56 rfl rfl rfl ?_;have w1:IntKind.i64.wrap (1+x.1)=1+x.1:=Ad (by omega) (by omega);have w2:IntKind.i64.wrap (1+x.1+x.2.1.length)=1+x.1+x.2.1.length:=Ad (by omega) (by omega);have w3:IntKind.i64.wrap (1+x.1+x.2.1.length+x.2.2.1.length)=1+x.1+x.2.1.length+x.2.2.1.length:=Ad (by omega) (by omega);simp[Ao,w1,w2,w3]
theorem Rt (x:AK):BA Tryz.prog 63 [GD x] (.d (.int .i64 (Bz x))):=by
 refine A6 (by kernel_rfl) Tryz.func63 rfl rfl rfl ?_;simp[Ao];refine Ab (Fl _ _ _) ?_
 skip
 unfold Bz;rcases Ep (DX x.1 0 20) with h1|h1
 case inr=>simp[h1]
 by_cases h2:x.2.1.length≤12
 case neg=>simp[h1,h2,show (12:Int)<x.2.1.length by omega]
 by_cases h3:x.2.2.1.length≤300
 case neg=>simp[h1,h2,h3,show ¬ (12:Int)<x.2.1.length by omega,show (300:Int)<x.2.2.1.length by omega]
 by_cases h4:x.2.2.2.length≤16
 case neg=>simp[h1,h2,h3,h4,show ¬ (12:Int)<x.2.1.length by omega,show ¬ (300:Int)<x.2.2.1.length by omega,show (16:Int)<x.2.2.2.length by omega]
 simp[h1,h2,h3,h4,show ¬ (12:Int)<x.2.1.length by omega,show ¬ (300:Int)<x.2.2.1.length by omega,show ¬ (16:Int)<x.2.2.2.length by omega];refine Ab (Do x (by simpa [DX] using h1) h2 h3) ?_
 skip
 simp
theorem Bw (x:AK):BA Tryz.prog 33 [GD x] (.d (.int .i64 (Bz x))):=by
 refine A6 (by kernel_rfl) Tryz.func33 rfl rfl rfl ?_;simp[Ao];refine Ab (EX _ _ _) ?_;simp;unfold Bz;rcases Ep (DX x.1 0 20) with h1|h1
 case inr=>simp[h1]
 by_cases h2:x.2.1.length≤12
 case neg=>simp[h1,h2,show (12:Int)<x.2.1.length by omega]
 by_cases h3:x.2.2.1.length≤300
 case neg=>simp[h1,h2,h3,show ¬ (12:Int)<x.2.1.length by omega,show (300:Int)<x.2.2.1.length by omega]
 by_cases h4:x.2.2.2.length≤16
 case neg=>simp[h1,h2,h3,h4,show ¬ (12:Int)<x.2.1.length by omega,show ¬ (300:Int)<x.2.2.1.length by omega,show (16:Int)<x.2.2.2.length by omega,show ¬ (x.2.2.2.length:Int)≤16 by omega]
 have h0:=AP.1 h1;have w1:IntKind.i64.wrap (1+x.1)=1+x.1:=Ad (by omega) (by omega);have w2:IntKind.i64.wrap (1+x.1+x.2.1.length)=1+x.1+x.2.1.length:=Ad (by omega) (by omega);have w3:IntKind.i64.wrap (1+x.1+x.2.1.length+x.2.2.1.length)=1+x.1+x.2.1.length+x.2.2.1.length:=Ad (by omega) (by omega);simp[h1,h2,h3,h4,show ¬ (12:Int)<x.2.1.length by omega,show ¬ (300:Int)<x.2.2.1.length by omega,show ¬ (16:Int)<x.2.2.2.length by omega,w1,w2,w3]
theorem LV {x:AK} (h:Bz x≠0):0≤x.1∧x.1≤20∧x.2.1.length≤12∧x.2.2.1.length≤300∧x.2.2.2.length≤16∧Bz x=1+x.1+x.2.1.length+x.2.2.1.length:=by
 unfold Bz at h ⊢;split
 · rename_i hc;have:=AP.1 hc.1;exact⟨this.1,this.2,hc.2.1,hc.2.2.1,hc.2.2.2,rfl⟩
 · rename_i hc;rw[if_neg hc] at h;exact absurd rfl h
theorem BL (x:AK) (h1:0≤x.1∧x.1≤20) (h2:x.2.1.length≤12):BA Tryz.prog 51 [GD x] (.d (.int .i64 (1+x.1+x.2.1.length))):=by
 refine A6 (by kernel_rfl) Tryz.func51 rfl rfl rfl ?_;have w1:IntKind.i64.wrap (1+x.1)=1+x.1:=Ad (by omega) (by omega);have w2:IntKind.i64.wrap (1+x.1+x.2.1.length)=1+x.1+x.2.1.length:=Ad (by omega) (by omega);simp[Ao,w1,w2]
theorem BJ (x:AK) (h1:0≤x.1∧x.1≤20) (h2:x.2.1.length≤12):BA Tryz.prog 42 [GD x] (.d (.int .i64 (1+x.1+x.2.1.length))):=by
 refine A6 (by kernel_rfl) Tryz.func42 rfl rfl rfl ?_;have w1:IntKind.i64.wrap (1+x.1)=1+x.1:=Ad (by omega) (by omega);have w2:IntKind.i64.wrap (1+x.1+x.2.1.length)=1+x.1+x.2.1.length:=Ad (by omega) (by omega);simp[Ao,w1,w2]
def J0 (n:Int):Prop:=-9223372036854775808≤n∧n≤9223372036854775807
theorem H7 (n m:Int) (hn:J0 n) (hm:0≤m∧m≤1048576):BA Tryz.prog 40 [.d (.int .i64 n),.d (.int .i64 m)] (.d (.bool (DX n 0 (2*m - 1)))):=by
 refine A6 (by kernel_rfl) Tryz.func40 rfl rfl rfl ?_;by_cases h0:0≤n
 · have hq:=N1 h0 hn.2;simp[h0,hq,DX];omega
 · simp[h0,DX]
def bV (x:AK) (k:Nat):List Int:=x.2.2.2++((x.2.1.map (·.2.2)).take k).flatten
def Ay (x:AK):List Int:=x.2.2.2++(x.2.1.map (·.2.2)).flatten
theorem WB {x:AK} {k:Nat} {s:Cx} (h:x.2.1[k]? = some s):bV x (k+1)=bV x k++s.2.2:=by
 unfold bV;rw[Bb (x:=s.2.2) (by rw[Di,h];rfl),Nu,FA];simp
theorem Gi {x:AK}:bV x x.2.1.length=Ay x:=by
 unfold bV Ay;rw[O6 (by simp)]
theorem Lt {ls:List (List Int)} {M:Nat} (h:∀ l∈ls,l.length≤M):∀ k:Nat,((ls.take k).flatten).length≤k*M
 | 0=>by simp
 | k+1=>by
   have ih:=Lt h k
   cases hk:ls[k]? with
   | none =>
     have:=List.getElem?_eq_none_iff.1 hk;rw[O6 (by omega)];rw[O6 (by omega)] at ih;rw[Nat.succ_mul];omega
   | some l =>
     rw[Bb hk,Nu,EM,Nat.succ_mul];have:=h l (D4 hk);have e:[l].flatten.length=l.length:=by simp
     omega
theorem Gr {x:AK} {k M:Nat} (h:∀ s∈x.2.1,s.2.2.length≤M):(bV x k).length≤x.2.2.2.length+k*M:=by
 unfold bV;rw[EM];have:=Lt (ls:=x.2.1.map (·.2.2)) (M:=M) (by intro l hl;obtain⟨s,hs,rfl⟩:=CE.1 hl;exact h s hs) k;omega
theorem Ub (xs:List Int) (h:xs.length≤1048576):BA Tryz.prog 87 [.d (Dr 3 (e1 AC) xs)] (.d (Dr 3 (e1 AC) xs)):=by
 refine A6 (by kernel_rfl) Tryz.func87 rfl rfl rfl ?_;simp;refine Ak As rfl (by simp) rfl (by simp) (by simp) (by first | (simp;done)|(simp;omega)) (by simp[AR,AL]) ?_;simp
theorem JC (x:AK) (hx:CF 1048576 x) (hn:x.2.1.length≤12):BA Tryz.prog 62 [GD x] (.d (Dr 3 (e1 AC) (Ay x))):=by
 obtain⟨f1,f2,f3,f5⟩:=hx;refine A6 (by kernel_rfl) Tryz.func62 rfl rfl rfl ?_;simp[Ao];refine Ak As rfl (by simp) rfl (by simp) (by simp) (by first | (simp;done)|(simp;omega)) (by simp[AR,AL]) ?_;simp;refine AB [false,true,false,true,true] (fun k:Nat=>k≤x.2.1.length) (fun k:Nat=>[(3,.ref 2),(4,.d (.int .i64 k))]) (fun k:Nat=>[(1,.dead),(2,.arr 3 true ((bV x k).map (e1 AC)))]) (fun k:Nat=>x.2.1.length - k) 0 ?_ ?_ ?_
 · simp
 · exact⟨[0,1,2],by simp[bV]⟩
 rintro I S μ hI hS hμ k hk;by_cases hlt:k<x.2.1.length
 · have hx1:x.2.1[k]? = some x.2.1[k]:=A1 hlt;have hL:(AY x.2.1[k]).length=3:=rfl;have w2:IntKind.i64.wrap ((k:Int)+1)=(k:Int)+1:=Ad (by omega) (by omega);have hl:=f2 _ (Dv hlt);have hnext:=WB hx1;have hrl:=Gr (x:=x) (k:=k) (M:=1048576) f2;generalize x.2.1[k]=s at *;have hd:decide (k<x.2.1.length)=true:=A8 hlt;simp[hd,hx1,hL,AY];refine Ak As rfl (by simp) rfl (by simp) (by simp) (by first | (simp;done)|(simp;omega)) (by simp[AR,AL]) ?_;simp[w2];exact Ae hI hS hμ (k+1) (by omega) (by omega) ⟨[0,1,3],by simp[hnext]⟩
 · have hk':k=x.2.1.length:=by omega
   subst hk';have hr:bV x x.2.1.length=Ay x:=Gi;simp[hlt,hr]
theorem Jz (x:AK) (hx:CF 1048576 x) (hn:x.2.1.length≤12):BA Tryz.prog 53 [GD x] (.d (Dr 3 (e1 AC) (Ay x))):=by
 obtain⟨f1,f2,f3,f5⟩:=hx;refine A6 (by kernel_rfl) Tryz.func53 rfl rfl rfl ?_;simp[Ao];refine Ab (Ub _ f5) ?_;simp;refine AB [false,false,false,true,false,false,false,false,false,false,true,true,true] (fun k:Nat=>k≤x.2.1.length) (fun k:Nat=>[(3,.ref 1),(12,.d (.int .i64 k))]) (fun k:Nat=>[(1,.arr 3 true ((bV x k).map (e1 AC)))]) (fun k:Nat=>x.2.1.length - k) 0 ?_ ?_ ?_
 · simp
 · exact⟨[0,1],by simp[bV]⟩
 rintro I S μ hI hS hμ k hk;by_cases hlt:k<x.2.1.length
 · have hx1:x.2.1[k]? = some x.2.1[k]:=A1 hlt;have hL:(AY x.2.1[k]).length=3:=rfl;have w2:IntKind.i64.wrap ((k:Int)+1)=(k:Int)+1:=Ad (by omega) (by omega);have hl:=f2 _ (Dv hlt);have hnext:=WB hx1;have hrl:=Gr (x:=x) (k:=k) (M:=1048576) f2;generalize x.2.1[k]=s at *;have hd:decide (k<x.2.1.length)=true:=A8 hlt;simp[hd,hx1,hL,AY];refine Ak As rfl (by simp) rfl (by simp) (by simp) (by first | (simp;done)|(simp;omega)) (by simp[AR,AL]) ?_;simp[w2];exact Ae hI hS hμ (k+1) (by omega) (by omega) ⟨[0,3],by simp[hnext]⟩
 · have hk':k=x.2.1.length:=by omega
   subst hk';have hr:bV x x.2.1.length=Ay x:=Gi;simp[hlt,hr]
end Go.Proofs.YtnjedabjbeipeaaGreat
