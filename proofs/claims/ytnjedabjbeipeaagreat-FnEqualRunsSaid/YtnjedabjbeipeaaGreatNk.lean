/-
  Cones and cuts of a graph, by abstract walks: both sides.
  Conditions: those typed in each theorem.
-/
import Derived.Test.YtnjedabjbeipeaaGreatNh
import Derived.Test.YtnjedabjbeipeaaGreatNv
namespace Go.Proofs.YtnjedabjbeipeaaGreat
open Go.RowKit Go.ChangeShapes Go.WideShapes
set_option linter.unusedSimpArgs false
set_option linter.unusedVariables false
set_option maxRecDepth 100000
set_option maxHeartbeats 10000000
section
attribute [local simp] D1 Fj
abbrev YH (s:List Bool):X:=.d (Dh 4 (e1 CQ) s)
def KP (xs:List Int) (n:Int):Bool:=decide (n∈xs)
theorem lN {xs:List Int} {n:Int} {k:Nat} (h:xs[k]? = some n):KP xs n=true:=zz2 (zz6 h)
theorem hY {xs:List Int} {n:Int} (h:∀ (k:Nat) y,xs[k]? = some y→y≠n):KP xs n=false:=zz3 fun hm=>by
 obtain⟨k,hk,e⟩:=List.mem_iff_getElem.1 hm;exact h k _ (zz0 hk) e
theorem I0 (xs:List Int) (n:Int) (hx:xs.length≤1099511627776):Bx Tryz.prog 99 [ints xs,.d (.int .i64 n)] (.d (.bool (KP xs n))):=by
 refine A5 (by kernel_rfl) Tryz.func99 rfl rfl rfl ?_;simp;refine AB [true,true,false,false,false,true] (fun k:Nat=>k≤xs.length∧∀ (j:Nat) y,j<k→xs[j]? = some y→y≠n) (fun k:Nat=>[(5,.d (.int .i64 k))]) (fun k:Nat=>[]) (fun k:Nat=>xs.length - k) 0 ?_ ?_ ?_
 · exact⟨by omega,fun j y h=>by omega⟩
 · exact⟨[],by simp⟩
 rintro I S μ hI hS hμ k ⟨hk,ha⟩;by_cases hlt:k<xs.length
 · have hx1:xs[k]? = some xs[k]:=zz0 hlt;have w2:IntKind.i64.wrap ((k:Int)+1)=(k:Int)+1:=Ad (by omega) (by omega);have hd:decide (k<xs.length)=true:=zz2 hlt;generalize xs[k]=v at *;by_cases hv:v=n
   · subst hv;simp[hd,hx1,lN hx1]
   · simp[hd,hx1,hv,show (v==n)=false by simpa using hv,w2]
     exact Ae hI hS hμ (k+1) ⟨by omega,fun j y hj h=>by
      by_cases e:j=k
      · subst e;rw[hx1] at h;cases h;exact hv
      · exact ha j y (by omega) h⟩ (by omega) ⟨[],by simp⟩
 · have hk':k=xs.length:=by omega
   have hn:KP xs n=false:=hY fun j y h=>ha j y (by rw[hk'];exact (zz1.1 h).1) h;subst hk';simp[hlt,hn]
def Ui (xs:List Int):Bool:=(List.range (xs.length - 1)).all fun i=>decide (A1 xs i<A1 xs ((i:Int)+1))
theorem Me {xs:List Int} {k:Nat} {y:Int} (h:xs[k]? = some y):A1 xs k=y:=by simp[A1,h]
def Aa (x:AK):Nat:=1+x.1.toNat+x.2.1.length
def Aj (x:AK) (v:Nat):Ai:=(x.2.2.1[v - Aa x]?).getD (0,0)
def CF (x:AK) (v:Nat):Nat:=(Aj x v).1.toNat / 2
def CP (x:AK) (v:Nat):Nat:=(Aj x v).2.toNat / 2
abbrev JD (x:AK):=Jp (Aa x) (CF x) (CP x)
abbrev eS (x:AK):=Ut (Aa x) (CF x) (CP x)
theorem Bp (x:AK):A0 x=Aa x+x.2.2.1.length:=rfl
theorem CW {x:AK} (hok:Al x=true) {v:Nat} (h1:Aa x≤v) (h2:v<A0 x) :
 x.2.2.1[v - Aa x]? = some (Aj x v)∧0≤(Aj x v).1∧0≤(Aj x v).2∧(Aj x v).1 / 2=(CF x v:Int)∧(Aj x v).2 / 2=(CP x v:Int)∧CF x v<v∧CP x v<v:=by
 obtain⟨⟨n1,n2,n3,n4,n5,n6⟩,-,-,o3⟩:=AA hok;rw[Bp] at h2;have hl:v - Aa x<x.2.2.1.length:=by omega
 have ha:x.2.2.1[v - Aa x]? = some (Aj x v):=by unfold Aj;rw[zz0 hl];rfl
 have ho:=o3 _ _ ha;have hf:(Aa x:Int)=1+x.1+x.2.1.length:=by unfold Aa;omega
 refine⟨ha,ho.1.1,ho.2.1,?_,?_,?_,?_⟩
 · unfold CF;omega
 · unfold CP;omega
 · unfold CF;omega
 · unfold CP;omega
theorem DX {x:AK} (hok:Al x=true):∀ v,Aa x≤v→v<A0 x→CF x v<v∧CP x v<v:=fun v h1 h2=>(CW hok h1 h2).2.2.2.2.2
theorem GM {s:List Bool} {v:Nat} {b:Bool}:(s.map (e1 CQ)).set v [.bool b]=(s.set v b).map (e1 CQ):=by rw[List.map_set];rfl
abbrev oL (x:AK):V:=.agg [.d (.int .i64 x.1),.d (Dh 57 AY x.2.1),.d (Dh 63 At x.2.2.1),.d (Dh 3 (e1 AC) x.2.2.2)]
theorem KS (x:AK) (hx:Cz 1048576 x) (hok:Al x=true):∀ (n v:Nat) (s:List Bool),v<n→v<A0 x→s.length=A0 x →
 CG Tryz.prog 88 [oL x,.d (.int .i64 v),.ref 0] [.arr 4 true (s.map (e1 CQ))] (.tup []) [.arr 4 true ((JD x n v s).map (e1 CQ))]
 | 0,v,s,h,_,_=>by omega
 | n+1,v,s,hn,hv,hl=>by
   have ih:=KS x hx hok n;obtain⟨⟨n1,n2,n3,n4,n5,n6⟩,-,-,-⟩:=AA hok;have hF:(Aa x:Int)=1+x.1+x.2.1.length:=by unfold Aa;omega
   have hN:=Bp x;have hgl:A0 x≤400:=by unfold Aa at hN;omega
   have hat:=Du (s:=s) (v:=v) (by omega);refine BA (by kernel_rfl) Tryz.func88 rfl rfl rfl (by simp[Bi,Later]) (by simp[BN,Ah.live]) ?_;simp[Ao,hat];rcases ABu (AX s v) with hs|hs
   · simp[hs];exact⟨[0],by simp[Jp,hs]⟩
   have hset:=GM (s:=s) (v:=v) (b:=true);have hl1:(s.set v true).length=A0 x:=by simp[hl]
   have hm:JD x (n+1) v s=if v<Aa x then s.set v true else JD x n (CP x v) (JD x n (CF x v) (s.set v true)):=by
    simp[JD,Jp,hs]
   rw[hm];have w1:IntKind.i64.wrap ((v:Int) - (1+x.1+x.2.1.length))=(v:Int) - (1+x.1+x.2.1.length):=Ad (by omega) (by omega);generalize s.set v true=s1 at *;simp[hs,hset];refine Ab (BF x ⟨n1,n2⟩ n3) ?_;simp[w1];by_cases hf:v<Aa x
   · simp[show ¬ 1+x.1+(x.2.1.length:Int)≤v by omega,show (v:Int)<1+x.1+x.2.1.length by omega,hf];exact⟨[0],by simp⟩
   obtain⟨ha,a1,a2,a3,a4,a5,a6⟩:=CW hok (by omega) hv;have ht:((v:Int) - (1+x.1+x.2.1.length)).toNat=v - Aa x:=by omega
   have hL:(At (Aj x v)).length=2:=rfl;have hn0:¬ (v:Int) - (1+x.1+x.2.1.length)<0:=by omega
   have q1:IntKind.i64.wrap ((Aj x v).1.tdiv 2)=(CF x v:Int):=by rw[Int.tdiv_eq_ediv_of_nonneg a1,a3];exact Ad (by omega) (by omega)
   have q2:IntKind.i64.wrap ((Aj x v).2.tdiv 2)=(CP x v:Int):=by rw[Int.tdiv_eq_ediv_of_nonneg a2,a4];exact Ad (by omega) (by omega)
   simp[show 1+x.1+(x.2.1.length:Int)≤v by omega,show ¬ (v:Int)<1+x.1+x.2.1.length by omega,hf];refine AJ 9 (by kernel_rfl) ?_;simp[ha,ht,hL,hn0,At,q1];refine Ac (ih (CF x v) s1 (by omega) (by omega) hl1) [] [0] (by simp) ?_;simp;refine AJ 9 (by kernel_rfl) ?_;simp[ha,ht,hL,hn0,At,q2];refine Ac (ih (CP x v) (JD x n (CF x v) s1) (by omega) (by omega) (by rw[D1,hl1])) [] [0] (by simp) ?_;simp;exact⟨[0],by simp⟩
def CM (s:List Bool) (k:Nat):List Int:=((List.range k).filter (AX s)).map fun i:Nat=>(i:Int)
def CV (s:List Bool):List Int:=CM s s.length
theorem JA {s:List Bool} {k:Nat}:CM s (k+1)=if AX s k=true then CM s k++[(k:Int)] else CM s k:=by
 unfold CM;rw[List.range_succ,List.filter_append];by_cases h:AX s k=true
 · simp[h]
 · simp[h]
theorem Ln {s:List Bool} {k:Nat}:(CM s k).length≤k:=by
 unfold CM;have:=List.length_filter_le (AX s) (List.range k);simpa using this
theorem Zu {s:List Bool} {v:Nat}:KP (CV s) v=AX s v:=by
 unfold KP CV CM
 have e:((v:Int)∈((List.range s.length).filter (AX s)).map fun i:Nat=>(i:Int))↔AX s v=true:=by
  rw[ABc];constructor
  · rintro⟨a,ha,hv⟩;have:a=v:=by omega
    subst this;exact (ABx.1 ha).2
  · intro h;refine⟨v,ABx.2 ⟨ABw.2 ?_,h⟩,rfl⟩;unfold AX at h
    cases hs:s[v]? with
    | none=>rw[hs] at h;cases h
    | some b=>exact (zz1.1 hs).1
 by_cases h:AX s v=true
 · rw[zz2 (e.2 h),h]
 · rw[zz3 (fun hm=>h (e.1 hm))];simpa using h
theorem XV (s:List Bool) (hs:s.length≤1048576):Bx Tryz.prog 89 [YH s] (ints (CV s)):=by
 refine A5 (by kernel_rfl) Tryz.func89 rfl rfl rfl ?_;simp;refine AH [false,false,false,true,false,false,true,true,true] (fun k:Nat=>k≤s.length) (fun k:Nat=>[(3,C7 (CM s k).length 0),(8,.d (.int .i64 k))]) (fun k:Nat=>C8 (CM s k).length (CM s k)) (fun k:Nat=>s.length - k) 0 ?_ ?_ ?_
 · simp
 · exact⟨[],by simp[C7,C8,CM]⟩
 rintro I S μ hI hS hμ k hk;by_cases hlt:k<s.length
 · have hat:=Du (s:=s) (v:=k) hlt;have w2:IntKind.i64.wrap ((k:Int)+1)=(k:Int)+1:=Ad (by omega) (by omega);have hd:decide (k<s.length)=true:=zz2 hlt;have hnx:=JA (s:=s) (k:=k);have hll:=Ln (s:=s) (k:=k);generalize CM s k=ms at *;rcases ABu (AX s k) with hb|hb
   · rw[hb,if_pos rfl] at hnx;by_cases hk0:ms=[]
     · subst hk0;simp[C7,C8,hd,hat,hb];refine Ak As rfl (by simp) rfl (by simp) (by simp) (by first | (simp;done)|(simp;omega)) (by simp[AR,AL]) ?_;simp[w2];exact Ae hI hS hμ (k+1) (by omega) (by omega) ⟨[1],by simp[C7,C8,hnx]⟩
     · simp[C7,C8,hd,hat,hb,hk0];refine Ak As rfl (by simp) rfl (by simp) (by simp) (by first | (simp;done)|(simp;omega)) (by simp[AR,AL]) ?_;simp[w2];exact Ae hI hS hμ (k+1) (by omega) (by omega) ⟨[2],by simp[C7,C8,hnx]⟩
   · rw[hb,if_neg (by simp)] at hnx;simp[C7,C8,hd,hat,hb,w2];by_cases hk0:ms=[]
     · exact Ae hI hS hμ (k+1) (by omega) (by omega) ⟨[],by simp[C7,C8,hnx,hk0]⟩
     · exact Ae hI hS hμ (k+1) (by omega) (by omega) ⟨[0],by simp[C7,C8,hnx,hk0]⟩
 · have hk':k=s.length:=by omega
   subst hk';have hm:CV s=CM s s.length:=rfl;rw[hm];generalize CM s s.length=ms at *;by_cases hk0:ms=[]
   · subst hk0;simp[C7,C8,hlt]
   · simp[C7,C8,hlt,hk0]
def Di (x:AK) (v:Nat):List Bool:=JD x (v+1) v (List.replicate (A0 x) false)
theorem E3 {x:AK} {v:Nat}:(Di x v).length=A0 x:=by simp[Di]
theorem gN (x:AK) (v:Nat) (hx:Cz 1048576 x) (hok:Al x=true) (hv:v<A0 x):Bx Tryz.prog 57 [Ge x,.d (.int .i64 v)] (ints (CV (Di x v))):=by
 obtain⟨⟨n1,n2,n3,n4,n5,n6⟩,-,-,-⟩:=AA hok;have hN:=Bp x;have hF:(Aa x:Int)=1+x.1+x.2.1.length:=by unfold Aa;omega
 have hgl:A0 x≤400:=by unfold Aa at hN;omega
 have hcl:=E3 (x:=x) (v:=v);have hNi:(1+x.1+(x.2.1.length:Int)+(x.2.2.1.length:Int)).toNat=A0 x:=by omega
 have hr:List.replicate (A0 x) [D.bool false]=(List.replicate (A0 x) false).map (e1 CQ):=by rw[List.map_replicate];rfl
 have hm:=KS x hx hok (v+1) v (List.replicate (A0 x) false) (by omega) hv (by simp);have hc:JD x (v+1) v (List.replicate (A0 x) false)=Di x v:=rfl;rw[hc] at hm;refine A5 (by kernel_rfl) Tryz.func57 rfl rfl rfl ?_;simp[Ao];refine Ab (Df x ⟨n1,n2⟩ n3 n4) ?_;simp;refine⟨⟨by omega,by omega⟩,?_⟩;rw[hNi,hr];refine Ac (hm) [] [1] (by simp) ?_;simp;refine Ab (XV (Di x v) (by omega)) ?_;simp
theorem RV (x:AK) (v:Nat) (h1:0≤x.1∧x.1≤20) (h2:x.2.1.length≤12) (h3:x.2.2.1.length≤300):Bx Tryz.prog 58 [Ge x,.d (.int .i64 v)] (.d (.bool (decide (Aa x≤v)&&decide (v<A0 x)))):=by
 have hF:(Aa x:Int)=1+x.1+x.2.1.length:=by unfold Aa;omega
 have hN:=Bp x;refine A5 (by kernel_rfl) Tryz.func58 rfl rfl rfl ?_;simp[Ao];refine Ab (BF x h1 h2) ?_;simp;by_cases hf:Aa x≤v
 · simp[show 1+x.1+(x.2.1.length:Int)≤v by omega];refine Ab (Df x h1 h2 h3) ?_;simp;by_cases hn:v<A0 x
   · simp[hf,hn,show (v:Int)<1+x.1+x.2.1.length+x.2.2.1.length by omega]
   · simp[hf,hn,show ¬ (v:Int)<1+x.1+x.2.1.length+x.2.2.1.length by omega]
 · simp[hf,show ¬ 1+x.1+(x.2.1.length:Int)≤v by omega,show (v:Int)<1+x.1+x.2.1.length by omega]
end
def Cg (x:AK):List Int:=x.2.1.map (·.2.1)
theorem Tf (x:AK) (hx:Cz 1048576 x):Bx Tryz.prog 26 [Ge x] (ints (Cg x)):=by
 obtain⟨f1,f2,f3,f5⟩:=hx;have hsl:Cg x=(Cg x).take x.2.1.length:=by rw[AB8 (by simp[Cg])]
 rw[hsl];refine A5 (by kernel_rfl) Tryz.func26 rfl rfl rfl ?_;simp[Ao];refine AH [false,false,false,true,false,false,false,true,true,true] (fun k:Nat=>k≤x.2.1.length) (fun k:Nat=>[(3,C7 k 1),(9,.d (.int .i64 k))]) (fun k:Nat=>C8 k ((Cg x).take k)) (fun k:Nat=>x.2.1.length - k) 0 ?_ ?_ ?_
 · simp
 · exact⟨[0],by simp[C7,C8]⟩
 rintro I S μ hI hS hμ k hk;by_cases hlt:k<x.2.1.length
 · have hx1:x.2.1[k]? = some x.2.1[k]:=zz0 hlt;have hL:(AY x.2.1[k]).length=3:=rfl;have hnx:(Cg x).take (k+1)=(Cg x).take k++[x.2.1[k].2.1]:=Ba (by simp[Cg,hx1]);have w2:IntKind.i64.wrap ((k:Int)+1)=(k:Int)+1:=Ad (by omega) (by omega);generalize x.2.1[k]=s at *;have hd:decide (k<x.2.1.length)=true:=zz2 hlt;by_cases hk0:k=0
   · subst hk0;have w20:IntKind.i64.wrap 1=1:=by decide
     simp[C7,C8,hd,hx1,hL,AY];refine Ak As rfl (by simp) rfl (by simp) (by simp) (by first | (simp;done)|(simp;omega)) (by simp[AR,AL]) ?_;simp[w20];exact Ae hI hS hμ 1 (by omega) (by omega) ⟨[0,3],by simp[C7,C8,hnx]⟩
   · simp[C7,C8,hd,hx1,hL,AY,hk0];refine Ak As rfl (by simp) rfl (by simp) (by simp) (by first | (simp;done)|(simp;omega)) (by simp[AR,AL]) ?_;simp[w2];exact Ae hI hS hμ (k+1) (by omega) (by omega) ⟨[0,4],by simp[C7,C8,hnx]⟩
 · have hk':k=x.2.1.length:=by omega
   subst hk';by_cases hk0:x.2.1.length=0
   · simp[C7,C8,hk0]
   · simp[C7,C8,hk0]
theorem KR (x:AK) (hx:Cz 1048576 x) (hg:JO x) (hok:Al x=true):Bx Tryz.prog 10 [Ge x] (ints (Cg x)):=by
 have hx':=hx;obtain⟨f1,f2,f3,f5⟩:=hx';have hsl:Cg x=(Cg x).take x.2.1.length:=by rw[AB8 (by simp[Cg])]
 rw[hsl];refine A5 (by kernel_rfl) Tryz.func10 rfl rfl rfl ?_;simp[Ao];refine Ab (Co x hx hg) ?_;simp[hok];refine AB [false,true,false,true,true] (fun k:Nat=>k≤x.2.1.length) (fun k:Nat=>[(3,.ref 1),(4,.d (.int .i64 k))]) (fun k:Nat=>[(1,.arr 3 true (((Cg x).take k).map (e1 AC)))]) (fun k:Nat=>x.2.1.length - k) 0 ?_ ?_ ?_
 · simp
 · exact⟨[0,1],by simp⟩
 rintro I S μ hI hS hμ k hk;by_cases hlt:k<x.2.1.length
 · have hx1:x.2.1[k]? = some x.2.1[k]:=zz0 hlt;have hL:(AY x.2.1[k]).length=3:=rfl;have hnx:(Cg x).take (k+1)=(Cg x).take k++[x.2.1[k].2.1]:=Ba (by simp[Cg,hx1]);have w2:IntKind.i64.wrap ((k:Int)+1)=(k:Int)+1:=Ad (by omega) (by omega);generalize x.2.1[k]=s at *;have hd:decide (k<x.2.1.length)=true:=zz2 hlt;simp[hd,hx1,hL,AY];refine Ak As rfl (by simp) rfl (by simp) (by simp) (by first | (simp;done)|(simp;omega)) (by simp[AR,AL]) ?_;simp[w2];exact Ae hI hS hμ (k+1) (by omega) (by omega) ⟨[0,3],by simp[hnx]⟩
 · have hk':k=x.2.1.length:=by omega
   subst hk';simp[hlt]
section
attribute [local simp] D1 Fj
def Xd (ms cut:List Int):Bool:=cut.all fun y=>KP ms y
def H7 (x:AK) (v:Nat) (cut:List Int):Bool:=decide (cut.length≤4)&&Ui cut&&Xd (CV (Di x v)) cut&&!(eS x cut (v+1) v (List.replicate (A0 x) false)).1
theorem A7 {x:AK} (hok:Al x=true):(Aa x:Int)=1+x.1+x.2.1.length∧A0 x≤400∧(1+x.1+(x.2.1.length:Int)+(x.2.2.1.length:Int))=A0 x∧Bw x=A0 x:=by
 obtain⟨⟨n1,n2,n3,n4,n5,n6⟩,-,-,-⟩:=AA hok;have hN:=Bp x;unfold Aa at hN;refine⟨by unfold Aa;omega,by omega,by omega,by omega⟩
theorem M1 {n:Nat}:List.replicate n [D.bool false]=(List.replicate n false).map (e1 CQ):=by rw[List.map_replicate];rfl
def K8 (x:AK) (c:List Int) (i:Nat):Bool:=!KP c ((Aa x+i:Nat):Int)&&H7 x (Aa x+i) c
end
end Go.Proofs.YtnjedabjbeipeaaGreat
