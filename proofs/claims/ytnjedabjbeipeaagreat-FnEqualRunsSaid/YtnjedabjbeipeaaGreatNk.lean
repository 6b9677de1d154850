/-
  Cones and cuts of a graph, by abstract walks: both sides.
  Conditions: those typed in each theorem.
-/
import Derived.Test.YtnjedabjbeipeaaGreatNh
import Derived.Test.YtnjedabjbeipeaaGreatNv
namespace Go.Proofs.YtnjedabjbeipeaaGreat
open Go.RowKit Go.ChangeShapes Go.WideShapes
set_option linter.unusedSimpArgs false
set_option linter.unusedVariables false
set_option maxRecDepth 100000
set_option maxHeartbeats 10000000
section
attribute [local simp] Ee FE
abbrev ZL (s:List Bool):X:=.d (Dr 4 (e1 CZ) s)
def Li (xs:List Int) (n:Int):Bool:=decide (n∈xs)
theorem oI {xs:List Int} {n:Int} {k:Nat} (h:xs[k]? = some n):Li xs n=true:=A8 (D4 h)
theorem iI {xs:List Int} {n:Int} (h:∀ (k:Nat) y,xs[k]? = some y→y≠n):Li xs n=false:=BH fun hm=>by
 obtain⟨k,hk,e⟩:=List.mem_iff_getElem.1 hm;exact h k _ (A1 hk) e
theorem JK (xs:List Int) (n:Int) (hx:xs.length≤1099511627776):BA Tryz.prog 99 [ints xs,.d (.int .i64 n)] (.d (.bool (Li xs n))):=by
 refine A6 (by kernel_rfl) Tryz.func99 rfl rfl rfl ?_;simp;refine AB [true,true,false,false,false,true] (fun k:Nat=>k≤xs.length∧∀ (j:Nat) y,j<k→xs[j]? = some y→y≠n) (fun k:Nat=>[(5,.d (.int .i64 k))]) (fun k:Nat=>[]) (fun k:Nat=>xs.length - k) 0 ?_ ?_ ?_
 · exact⟨by omega,fun j y h=>by omega⟩
 · exact⟨[],by simp⟩
 rintro I S μ hI hS hμ k ⟨hk,ha⟩;by_cases hlt:k<xs.length
 · have hx1:xs[k]? = some xs[k]:=A1 hlt;have w2:IntKind.i64.wrap ((k:Int)+1)=(k:Int)+1:=Ad (by omega) (by omega);have hd:decide (k<xs.length)=true:=A8 hlt;generalize xs[k]=v at *;by_cases hv:v=n
   · subst hv;simp[hd,hx1,oI hx1]
   · simp[hd,hx1,hv,show (v==n)=false by simpa using hv,w2]
     exact Ae hI hS hμ (k+1) ⟨by omega,fun j y hj h=>by
      by_cases e:j=k
      · subst e;rw[hx1] at h;cases h;exact hv
      · exact ha j y (by omega) h⟩ (by omega) ⟨[],by simp⟩
 · have hk':k=xs.length:=by omega
   have hn:Li xs n=false:=iI fun j y h=>ha j y (by rw[hk'];exact (BZ.1 h).1) h;subst hk';simp[hlt,hn]
def TP (xs:List Int):Bool:=(List.range (xs.length - 1)).all fun i=>decide (A3 xs i<A3 xs ((i:Int)+1))
theorem MB {xs:List Int} {k:Nat} {y:Int} (h:xs[k]? = some y):A3 xs k=y:=by simp[A3,h]
def Aa (x:AK):Nat:=1+x.1.toNat+x.2.1.length
def Aj (x:AK) (v:Nat):Ai:=(x.2.2.1[v - Aa x]?).getD (0,0)
def CK (x:AK) (v:Nat):Nat:=(Aj x v).1.toNat / 2
def CW (x:AK) (v:Nat):Nat:=(Aj x v).2.toNat / 2
abbrev KO (x:AK):=JU (Aa x) (CK x) (CW x)
abbrev kY (x:AK):=UY (Aa x) (CK x) (CW x)
theorem Br (x:AK):A0 x=Aa x+x.2.2.1.length:=rfl
theorem C3 {x:AK} (hok:Al x=true) {v:Nat} (h1:Aa x≤v) (h2:v<A0 x) :
 x.2.2.1[v - Aa x]? = some (Aj x v)∧0≤(Aj x v).1∧0≤(Aj x v).2∧(Aj x v).1 / 2=(CK x v:Int)∧(Aj x v).2 / 2=(CW x v:Int)∧CK x v<v∧CW x v<v:=by
 obtain⟨⟨n1,n2,n3,n4,n5,n6⟩,-,-,o3⟩:=AA hok;rw[Br] at h2;have hl:v - Aa x<x.2.2.1.length:=by omega
 have ha:x.2.2.1[v - Aa x]? = some (Aj x v):=by unfold Aj;rw[A1 hl];rfl
 have ho:=o3 _ _ ha;have hf:(Aa x:Int)=1+x.1+x.2.1.length:=by unfold Aa;omega
 refine⟨ha,ho.1.1,ho.2.1,?_,?_,?_,?_⟩
 · unfold CK;omega
 · unfold CW;omega
 · unfold CK;omega
 · unfold CW;omega
theorem Ea {x:AK} (hok:Al x=true):∀ v,Aa x≤v→v<A0 x→CK x v<v∧CW x v<v:=fun v h1 h2=>(C3 hok h1 h2).2.2.2.2.2
theorem Hg {s:List Bool} {v:Nat} {b:Bool}:(s.map (e1 CZ)).set v [.bool b]=(s.set v b).map (e1 CZ):=by rw[List.map_set];rfl
abbrev rC (x:AK):V:=.agg [.d (.int .i64 x.1),.d (Dr 57 AY x.2.1),.d (Dr 63 At x.2.2.1),.d (Dr 3 (e1 AC) x.2.2.2)]
theorem LA (x:AK) (hx:CF 1048576 x) (hok:Al x=true):∀ (n v:Nat) (s:List Bool),v<n→v<A0 x→s.length=A0 x →
 CM Tryz.prog 88 [rC x,.d (.int .i64 v),.ref 0] [.arr 4 true (s.map (e1 CZ))] (.tup []) [.arr 4 true ((KO x n v s).map (e1 CZ))]
 | 0,v,s,h,_,_=>by omega
 | n+1,v,s,hn,hv,hl=>by
   have ih:=LA x hx hok n;obtain⟨⟨n1,n2,n3,n4,n5,n6⟩,-,-,-⟩:=AA hok;have hF:(Aa x:Int)=1+x.1+x.2.1.length:=by unfold Aa;omega
   have hN:=Br x;have hgl:A0 x≤400:=by unfold Aa at hN;omega
   have hat:=DG (s:=s) (v:=v) (by omega);refine BE (by kernel_rfl) Tryz.func88 rfl rfl rfl (by simp[Bl,Later]) (by simp[BP,Ah.live]) ?_;simp[Ao,hat];rcases Ep (AX s v) with hs|hs
   · simp[hs];exact⟨[0],by simp[JU,hs]⟩
   have hset:=Hg (s:=s) (v:=v) (b:=true);have hl1:(s.set v true).length=A0 x:=by simp[hl]
   have hm:KO x (n+1) v s=if v<Aa x then s.set v true else KO x n (CW x v) (KO x n (CK x v) (s.set v true)):=by
    simp[KO,JU,hs]
   rw[hm];have w1:IntKind.i64.wrap ((v:Int) - (1+x.1+x.2.1.length))=(v:Int) - (1+x.1+x.2.1.length):=Ad (by omega) (by omega);generalize s.set v true=s1 at *;simp[hs,hset];refine Ab (BL x ⟨n1,n2⟩ n3) ?_;simp[w1];by_cases hf:v<Aa x
   · simp[show ¬ 1+x.1+(x.2.1.length:Int)≤v by omega,show (v:Int)<1+x.1+x.2.1.length by omega,hf];exact⟨[0],by simp⟩
   obtain⟨ha,a1,a2,a3,a4,a5,a6⟩:=C3 hok (by omega) hv;have ht:((v:Int) - (1+x.1+x.2.1.length)).toNat=v - Aa x:=by omega
   have hL:(At (Aj x v)).length=2:=rfl;have hn0:¬ (v:Int) - (1+x.1+x.2.1.length)<0:=by omega
   have q1:IntKind.i64.wrap ((Aj x v).1.tdiv 2)=(CK x v:Int):=by rw[Int.tdiv_eq_ediv_of_nonneg a1,a3];exact Ad (by omega) (by omega)
   have q2:IntKind.i64.wrap ((Aj x v).2.tdiv 2)=(CW x v:Int):=by rw[Int.tdiv_eq_ediv_of_nonneg a2,a4];exact Ad (by omega) (by omega)
   simp[show 1+x.1+(x.2.1.length:Int)≤v by omega,show ¬ (v:Int)<1+x.1+x.2.1.length by omega,hf];refine AH 9 (by kernel_rfl) ?_;simp[ha,ht,hL,hn0,At,q1];refine Ac (ih (CK x v) s1 (by omega) (by omega) hl1) [] [0] (by simp) ?_;simp;refine AH 9 (by kernel_rfl) ?_;simp[ha,ht,hL,hn0,At,q2];refine Ac (ih (CW x v) (KO x n (CK x v) s1) (by omega) (by omega) (by rw[Ee,hl1])) [] [0] (by simp) ?_;simp;exact⟨[0],by simp⟩
def CU (s:List Bool) (k:Nat):List Int:=((List.range k).filter (AX s)).map fun i:Nat=>(i:Int)
def C2 (s:List Bool):List Int:=CU s s.length
theorem Kx {s:List Bool} {k:Nat}:CU s (k+1)=if AX s k=true then CU s k++[(k:Int)] else CU s k:=by
 unfold CU;rw[List.range_succ,List.filter_append];by_cases h:AX s k=true
 · simp[h]
 · simp[h]
theorem LB {s:List Bool} {k:Nat}:(CU s k).length≤k:=by
 unfold CU;have:=List.length_filter_le (AX s) (List.range k);simpa using this
theorem aT {s:List Bool} {v:Nat}:Li (C2 s) v=AX s v:=by
 unfold Li C2 CU
 have e:((v:Int)∈((List.range s.length).filter (AX s)).map fun i:Nat=>(i:Int))↔AX s v=true:=by
  rw[CE];constructor
  · rintro⟨a,ha,hv⟩;have:a=v:=by omega
    subst this;exact (Mb.1 ha).2
  · intro h;refine⟨v,Mb.2 ⟨Gq.2 ?_,h⟩,rfl⟩;unfold AX at h
    cases hs:s[v]? with
    | none=>rw[hs] at h;cases h
    | some b=>exact (BZ.1 hs).1
 by_cases h:AX s v=true
 · rw[A8 (e.2 h),h]
 · rw[BH (fun hm=>h (e.1 hm))];simpa using h
theorem XL (s:List Bool) (hs:s.length≤1048576):BA Tryz.prog 89 [ZL s] (ints (C2 s)):=by
 refine A6 (by kernel_rfl) Tryz.func89 rfl rfl rfl ?_;simp;refine AJ [false,false,false,true,false,false,true,true,true] (fun k:Nat=>k≤s.length) (fun k:Nat=>[(3,Dh (CU s k).length 0),(8,.d (.int .i64 k))]) (fun k:Nat=>Dg (CU s k).length (CU s k)) (fun k:Nat=>s.length - k) 0 ?_ ?_ ?_
 · simp
 · exact⟨[],by simp[Dh,Dg,CU]⟩
 rintro I S μ hI hS hμ k hk;by_cases hlt:k<s.length
 · have hat:=DG (s:=s) (v:=k) hlt;have w2:IntKind.i64.wrap ((k:Int)+1)=(k:Int)+1:=Ad (by omega) (by omega);have hd:decide (k<s.length)=true:=A8 hlt;have hnx:=Kx (s:=s) (k:=k);have hll:=LB (s:=s) (k:=k);generalize CU s k=ms at *;rcases Ep (AX s k) with hb|hb
   · rw[hb,if_pos rfl] at hnx;by_cases hk0:ms=[]
     · subst hk0;simp[Dh,Dg,hd,hat,hb];refine Ak As rfl (by simp) rfl (by simp) (by simp) (by first | (simp;done)|(simp;omega)) (by simp[AR,AL]) ?_;simp[w2];exact Ae hI hS hμ (k+1) (by omega) (by omega) ⟨[1],by simp[Dh,Dg,hnx]⟩
     · simp[Dh,Dg,hd,hat,hb,hk0];refine Ak As rfl (by simp) rfl (by simp) (by simp) (by first | (simp;done)|(simp;omega)) (by simp[AR,AL]) ?_;simp[w2];exact Ae hI hS hμ (k+1) (by omega) (by omega) ⟨[2],by simp[Dh,Dg,hnx]⟩
   · rw[hb,if_neg (by simp)] at hnx;simp[Dh,Dg,hd,hat,hb,w2];by_cases hk0:ms=[]
     · exact Ae hI hS hμ (k+1) (by omega) (by omega) ⟨[],by simp[Dh,Dg,hnx,hk0]⟩
     · exact Ae hI hS hμ (k+1) (by omega) (by omega) ⟨[0],by simp[Dh,Dg,hnx,hk0]⟩
 · have hk':k=s.length:=by omega
   subst hk';have hm:C2 s=CU s s.length:=rfl;rw[hm];generalize CU s s.length=ms at *;by_cases hk0:ms=[]
   · subst hk0;simp[Dh,Dg,hlt]
   · simp[Dh,Dg,hlt,hk0]
def Du (x:AK) (v:Nat):List Bool:=KO x (v+1) v (List.replicate (A0 x) false)
theorem Fm {x:AK} {v:Nat}:(Du x v).length=A0 x:=by simp[Du]
theorem fG (x:AK) (v:Nat) (hx:CF 1048576 x) (hok:Al x=true) (hv:v<A0 x):BA Tryz.prog 57 [GD x,.d (.int .i64 v)] (ints (C2 (Du x v))):=by
 obtain⟨⟨n1,n2,n3,n4,n5,n6⟩,-,-,-⟩:=AA hok;have hN:=Br x;have hF:(Aa x:Int)=1+x.1+x.2.1.length:=by unfold Aa;omega
 have hgl:A0 x≤400:=by unfold Aa at hN;omega
 have hcl:=Fm (x:=x) (v:=v);have hNi:(1+x.1+(x.2.1.length:Int)+(x.2.2.1.length:Int)).toNat=A0 x:=by omega
 have hr:List.replicate (A0 x) [D.bool false]=(List.replicate (A0 x) false).map (e1 CZ):=by rw[List.map_replicate];rfl
 have hm:=LA x hx hok (v+1) v (List.replicate (A0 x) false) (by omega) hv (by simp);have hc:KO x (v+1) v (List.replicate (A0 x) false)=Du x v:=rfl;rw[hc] at hm;refine A6 (by kernel_rfl) Tryz.func57 rfl rfl rfl ?_;simp[Ao];refine Ab (Do x ⟨n1,n2⟩ n3 n4) ?_;simp;refine⟨⟨by omega,by omega⟩,?_⟩;rw[hNi,hr];refine Ac (hm) [] [1] (by simp) ?_;simp;refine Ab (XL (Du x v) (by omega)) ?_;simp
theorem Sk (x:AK) (v:Nat) (h1:0≤x.1∧x.1≤20) (h2:x.2.1.length≤12) (h3:x.2.2.1.length≤300):BA Tryz.prog 58 [GD x,.d (.int .i64 v)] (.d (.bool (decide (Aa x≤v)&&decide (v<A0 x)))):=by
 have hF:(Aa x:Int)=1+x.1+x.2.1.length:=by unfold Aa;omega
 have hN:=Br x;refine A6 (by kernel_rfl) Tryz.func58 rfl rfl rfl ?_;simp[Ao];refine Ab (BL x h1 h2) ?_;simp;by_cases hf:Aa x≤v
 · simp[show 1+x.1+(x.2.1.length:Int)≤v by omega];refine Ab (Do x h1 h2 h3) ?_;simp;by_cases hn:v<A0 x
   · simp[hf,hn,show (v:Int)<1+x.1+x.2.1.length+x.2.2.1.length by omega]
   · simp[hf,hn,show ¬ (v:Int)<1+x.1+x.2.1.length+x.2.2.1.length by omega]
 · simp[hf,show ¬ 1+x.1+(x.2.1.length:Int)≤v by omega,show (v:Int)<1+x.1+x.2.1.length by omega]
end
def Ck (x:AK):List Int:=x.2.1.map (·.2.1)
theorem UN (x:AK) (hx:CF 1048576 x):BA Tryz.prog 26 [GD x] (ints (Ck x)):=by
 obtain⟨f1,f2,f3,f5⟩:=hx;have hsl:Ck x=(Ck x).take x.2.1.length:=by rw[O6 (by simp[Ck])]
 rw[hsl];refine A6 (by kernel_rfl) Tryz.func26 rfl rfl rfl ?_;simp[Ao];refine AJ [false,false,false,true,false,false,false,true,true,true] (fun k:Nat=>k≤x.2.1.length) (fun k:Nat=>[(3,Dh k 1),(9,.d (.int .i64 k))]) (fun k:Nat=>Dg k ((Ck x).take k)) (fun k:Nat=>x.2.1.length - k) 0 ?_ ?_ ?_
 · simp
 · exact⟨[0],by simp[Dh,Dg]⟩
 rintro I S μ hI hS hμ k hk;by_cases hlt:k<x.2.1.length
 · have hx1:x.2.1[k]? = some x.2.1[k]:=A1 hlt;have hL:(AY x.2.1[k]).length=3:=rfl;have hnx:(Ck x).take (k+1)=(Ck x).take k++[x.2.1[k].2.1]:=Bb (by simp[Ck,hx1]);have w2:IntKind.i64.wrap ((k:Int)+1)=(k:Int)+1:=Ad (by omega) (by omega);generalize x.2.1[k]=s at *;have hd:decide (k<x.2.1.length)=true:=A8 hlt;by_cases hk0:k=0
   · subst hk0;have w20:IntKind.i64.wrap 1=1:=by decide
     simp[Dh,Dg,hd,hx1,hL,AY];refine Ak As rfl (by simp) rfl (by simp) (by simp) (by first | (simp;done)|(simp;omega)) (by simp[AR,AL]) ?_;simp[w20];exact Ae hI hS hμ 1 (by omega) (by omega) ⟨[0,3],by simp[Dh,Dg,hnx]⟩
   · simp[Dh,Dg,hd,hx1,hL,AY,hk0];refine Ak As rfl (by simp) rfl (by simp) (by simp) (by first | (simp;done)|(simp;omega)) (by simp[AR,AL]) ?_;simp[w2];exact Ae hI hS hμ (k+1) (by omega) (by omega) ⟨[0,4],by simp[Dh,Dg,hnx]⟩
 · have hk':k=x.2.1.length:=by omega
   subst hk';by_cases hk0:x.2.1.length=0
   · simp[Dh,Dg,hk0]
   · simp[Dh,Dg,hk0]
theorem Lr (x:AK) (hx:CF 1048576 x) (hg:Kz x) (hok:Al x=true):BA Tryz.prog 10 [GD x] (ints (Ck x)):=by
 have hx':=hx;obtain⟨f1,f2,f3,f5⟩:=hx';have hsl:Ck x=(Ck x).take x.2.1.length:=by rw[O6 (by simp[Ck])]
 rw[hsl];refine A6 (by kernel_rfl) Tryz.func10 rfl rfl rfl ?_;simp[Ao];refine Ab (Cr x hx hg) ?_;simp[hok];refine AB [false,true,false,true,true] (fun k:Nat=>k≤x.2.1.length) (fun k:Nat=>[(3,.ref 1),(4,.d (.int .i64 k))]) (fun k:Nat=>[(1,.arr 3 true (((Ck x).take k).map (e1 AC)))]) (fun k:Nat=>x.2.1.length - k) 0 ?_ ?_ ?_
 · simp
 · exact⟨[0,1],by simp⟩
 rintro I S μ hI hS hμ k hk;by_cases hlt:k<x.2.1.length
 · have hx1:x.2.1[k]? = some x.2.1[k]:=A1 hlt;have hL:(AY x.2.1[k]).length=3:=rfl;have hnx:(Ck x).take (k+1)=(Ck x).take k++[x.2.1[k].2.1]:=Bb (by simp[Ck,hx1]);have w2:IntKind.i64.wrap ((k:Int)+1)=(k:Int)+1:=Ad (by omega) (by omega);generalize x.2.1[k]=s at *;have hd:decide (k<x.2.1.length)=true:=A8 hlt;simp[hd,hx1,hL,AY];refine Ak As rfl (by simp) rfl (by simp) (by simp) (by first | (simp;done)|(simp;omega)) (by simp[AR,AL]) ?_;simp[w2];exact Ae hI hS hμ (k+1) (by omega) (by omega) ⟨[0,3],by simp[hnx]⟩
 · have hk':k=x.2.1.length:=by omega
   subst hk';simp[hlt]
section
attribute [local simp] Ee FE
def X5 (ms cut:List Int):Bool:=cut.all fun y=>Li ms y
def Iz (x:AK) (v:Nat) (cut:List Int):Bool:=decide (cut.length≤4)&&TP cut&&X5 (C2 (Du x v)) cut&&!(kY x cut (v+1) v (List.replicate (A0 x) false)).1
theorem A9 {x:AK} (hok:Al x=true):(Aa x:Int)=1+x.1+x.2.1.length∧A0 x≤400∧(1+x.1+(x.2.1.length:Int)+(x.2.2.1.length:Int))=A0 x∧Bz x=A0 x:=by
 obtain⟨⟨n1,n2,n3,n4,n5,n6⟩,-,-,-⟩:=AA hok;have hN:=Br x;unfold Aa at hN;refine⟨by unfold Aa;omega,by omega,by omega,by omega⟩
theorem N4 {n:Nat}:List.replicate n [D.bool false]=(List.replicate n false).map (e1 CZ):=by rw[List.map_replicate];rfl
def LK (x:AK) (c:List Int) (i:Nat):Bool:=!Li c ((Aa x+i:Nat):Int)&&Iz x (Aa x+i) c
end
end Go.Proofs.YtnjedabjbeipeaaGreat
