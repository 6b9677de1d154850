/-
  The net that compares two nets is a net. Plain lemmas.
  Conditions: those typed in each theorem.
-/
import Derived.Test.YtnjedabjbeipeaaGreatRr
import Derived.Test.YtnjedabjbeipeaaGreatKa
namespace Go.Proofs.YtnjedabjbeipeaaGreat
open Go.RowKit Go.ChangeShapes Go.WideShapes
set_option linter.unusedSimpArgs false
set_option linter.unusedVariables false
set_option maxRecDepth 100000
set_option maxHeartbeats 10000000
theorem SW {m:AK} {ra rb:List Int} {an0:List Ai} (hf:0<Aa m) (h0:Al (Ap m an0)=true) (h300:an0.length≤300)
 (hA:∀ k∈ra,0≤k∧k<2*((Aa m:Int)+an0.length)) (hB:∀ k∈rb,0≤k∧k<2*((Aa m:Int)+an0.length)) {n:Nat} (hn:n≤ra.length) (hm:n≤rb.length) :
 ∀ i,i≤n→(Bd (Aa m) ra rb an0 i).2.2=true→Al (Ap m (Bd (Aa m) ra rb an0 i).2.1)=true
 | 0,_,_=>h0
 | i+1,hi,h=>by
   have ih:=SW hf h0 h300 hA hB hn hm i (by omega);have hgf:=EF (fa:=Aa m) (by omega) h300 hA hB hn hm i (by omega);obtain⟨⟨s,an,b⟩,hst⟩:∃ q,Bd (Aa m) ra rb an0 i=q:=⟨_,rfl⟩;rw[hst] at ih hgf
   cases b with
   | false =>
     rw[Bd,hst,if_pos rfl] at h;simp at h
   | true =>
   have ih:=ih rfl;obtain⟨g1,g2,g3⟩:=hgf rfl;simp only at ih g1 g2 g3;have hstp:=Fv hst;have hx1:ra[i]? = some (ra.getD i 0):=by rw[List.getD_eq_getElem?_getD,zz0 (by omega)];rfl
   have hx2:rb[i]? = some (rb.getD i 0):=by rw[List.getD_eq_getElem?_getD,zz0 (by omega)];rfl
   have b1:=hA _ (zz6 hx1);have b2:=hB _ (zz6 hx2);generalize ra.getD i 0=xa at *;generalize rb.getD i 0=xb at *;have hgN:(A0 (Ap m an):Int)=Aa m+an.length:=by rw[Cq];omega
   have eX:=Wo (x:=Ap m an) (a:=xa) (b:=xb) g3 (by omega) (by omega);have hmX:=NQ (x:=Ap m an) (a:=xa) (b:=xb) ih;have xr:=HJ (fa:=Aa m) (an:=an) (a:=xa) (b:=xb) (by omega) g3 (by omega) (by omega);have eF:Cv (Aa (Ap m an)) (Ap m an).2.2.1 xa xb=Cv (Aa m) an xa xb:=rfl;rw[eF] at eX;obtain⟨⟨xv,an1⟩,hX⟩:∃ q,Cv (Aa m) an xa xb=q:=⟨_,rfl⟩;rw[hX] at eX xr hstp;obtain⟨x1,x2,x3,x4⟩:=xr;simp only at x1 x2 x3 x4 hstp eX;by_cases hv:xv<0
   · rw[if_pos hv] at hstp;rw[hstp] at h;simp at h
   rw[if_neg hv] at eX hstp;rw[eX] at hmX;simp only at hmX;have hgN2:(A0 (Ap (Ap m an) an1):Int)=Aa m+an1.length:=by rw[Cq,show Aa (Ap m an)=Aa m from rfl];omega
   have eO:=OJ (x:=Ap (Ap m an) an1) (a:=s) (b:=xv) (by omega) (by omega);rw[show Aa (Ap (Ap m an) an1)=Aa m from rfl,show (Ap (Ap m an) an1).2.2.1=an1 from rfl] at eO;have hmO2:=(Ls (x:=Ap (Ap m an) an1) (a:=s) (b:=xv) hmX).2.2;by_cases hv2:F7 (Aa m) an1 s xv<0
   · rw[if_pos hv2] at hstp;rw[hstp] at h;simp at h
   rw[if_neg hv2] at eO hstp;rw[eO] at hmO2;rw[hstp];exact hmO2
theorem YQ {a b:AK} (h:Ea a b=true):Al (Fg a b)=true∧(Fg a b).2.2.2=[(DC a b).1]∧Jy (DC a b).1:=by
 have hG:Fg a b=if Ea a b=true then (a.1+(a.2.1.length:Int),[],(DC a b).2.1,[(DC a b).1]) else (0,[],[],[]):=rfl;rw[if_pos h] at hG;have hO:Ea a b=(GL a b&&(Cm a).2.2&&(Cs a b).2.2&&(DC a b).2.2):=rfl;rw[h] at hO;have hO:=hO.symm;simp only[Bool.and_eq_true] at hO;obtain⟨⟨⟨hC,o1⟩,o2⟩,o3⟩:=hO;obtain⟨hoa,hob,h1,h2,h3,h4,hfb,hrl⟩:=G9 hC;obtain⟨⟨n1,n2,n3,n4,n5,n6⟩,-,-,-⟩:=AA hoa;obtain⟨⟨m1,m2,m3,m4,m5,m6⟩,-,-,-⟩:=AA hob;obtain⟨hFa,hga,hNa,-⟩:=A7 hoa;obtain⟨hFb,hgb,hNb,-⟩:=A7 hob;have hNea:=Bp a;have hNeb:=Bp b;obtain⟨I,hI⟩:∃ I,a.1+(a.2.1.length:Int)=I:=⟨_,rfl⟩;rw[hI] at hG;have hI20:0≤I∧I≤20:=by omega
 have hfm:Aa ((I,[],[],[]):AK)=Aa a:=by unfold Aa;simp;unfold Aa at hFa;omega
 have hm0:Al ((I,[],[],[]):AK)=true:=by
  unfold Al Bw;rw[if_pos ⟨AP.2 (by omega),by simp,by simp,by simp⟩];simp[Ay,IB,BR];omega
 have p1:=G5 (x:=a) hoa (an0:=[]) (by simp) rfl (i:=a.2.2.1.length) (Nat.le_refl _);have hi1:C9 a [] a.2.2.1.length=Cm a:=rfl;rw[hi1] at p1;have hi2:C9 b (Cm a).2.1 b.2.2.1.length=Cs a b:=rfl;have p2:=G5 (x:=b) hob p1.1.an (by rw[hfb];exact p1.1.ok) (i:=b.2.2.1.length) (Nat.le_refl _);rw[hi2] at p2;have hMr:DC a b=Bd (Aa a) (Bm a (Cm a).1) (Bm b (Cs a b).1) (Cs a b).2.1 (Ay a).length:=rfl;have hra:(Bm a (Cm a).1).length=(Ay a).length:=by simp[Bm]
 have hrb:(Bm b (Cs a b).1).length=(Ay a).length:=by simp[Bm,hrl]
 have h300:(Cs a b).2.1.length≤300:=p2.1.an;have hmB:Al (Ap ((I,[],[],[]):AK) (Cs a b).2.1)=true:=CS hm0 (by simp) p2.1.an (by rw[hfm,←hfb];exact p2.1.ok);have hpA:=p1.1.pl;have hpB:=p2.1.pl;rw[hfb] at hpB;have hle:=p2.2
 have hrA:∀ k:Int,k∈Bm a (Cm a).1→0≤k∧k<2*((Aa a:Int)+(Cs a b).2.1.length):=fun k hk=>by
  obtain⟨l,-,rfl⟩:=ABc.1 hk;have hq:Jw ((Aa a:Int)+(Cs a b).2.1.length) (Cm a).1:=Hi hpA (by omega);exact Bn (BH hq (by omega) _) (by omega)
 have hrB:∀ k:Int,k∈Bm b (Cs a b).1→0≤k∧k<2*((Aa a:Int)+(Cs a b).2.1.length):=fun k hk=>by
  obtain⟨l,-,rfl⟩:=ABc.1 hk;exact Bn (BH hpB (by omega) _) (by omega)
 have hgf:=EF (fa:=Aa a) (by omega) h300 hrA hrB (n:=(Ay a).length) (by omega) (by omega) _ (Nat.le_refl _);have hgn:=SW (m:=((I,[],[],[]):AK)) (by omega) hmB h300 (by rw[hfm];exact hrA) (by rw[hfm];exact hrB) (n:=(Ay a).length) (by omega) (by omega) _ (Nat.le_refl _);rw[hfm,←hMr] at hgn;rw[←hMr] at hgf;obtain⟨g1,g2,g3⟩:=hgf o3;have hgn:=hgn o3;generalize DC a b=R at *;obtain⟨l,an,bb⟩:=R;simp only at g1 g2 g3 hgn hG;rw[hG];refine⟨?_,rfl,by unfold Jy;simp only;omega⟩
 have hn:Bw ((I,[],an,[l]):AK)=1+I+an.length:=by
  unfold Bw;rw[if_pos ⟨AP.2 hI20,by simp,g3,by simp⟩];simp
 have hA:=PU hgn;rw[show Aa (Ap ((I,[],[],[]):AK) an)=Aa a from hfm] at hA;unfold Al;rw[hn];simp only[Bool.and_eq_true,decide_eq_true_eq];refine⟨⟨⟨by omega,by simp⟩,?_⟩,?_⟩
 · simp only[IB,Ay,List.map_nil,List.flatten_nil,List.append_nil,List.all_cons,List.all_nil,Bool.and_true];exact AP.2 (by omega)
 · have e:(1+I+(([]:List Cr).length:Int))=Aa a:=by rw[List.length_nil];omega
   rw[e];exact hA
def wX (x:AK) (l:Int):Int:=if 0≤l / 2 - 1 - x.1∧l / 2 - 1 - x.1<x.2.1.length∧(oD x (l / 2 - 1 - x.1).toNat).1=0 then l / 2 - 1 - x.1 else -1
def yK (x:AK) (k:Int):Ai:=(x.2.2.1[k.toNat]?).getD (0,0)
def Dr (pl:List Int) (s:Cr):Cr:=(s.1,s.2.1,s.2.2.map (Aq pl))
def CE (s:Cr):Cr:=(s.1,s.2.1,s.2.2.map fun _=>0)
def yJ (x:AK) (st:List Int) (l:Int):Int:=(A1 st (wX x l)+l % 2) % 2
def vF (x:AK) (k:Int) (st:List Int):Int:=yJ x st (yK x k).1*yJ x st (yK x k).2
section
variable {x:AK} {st:List Int} {inp:Int}
end
section
variable {x:AK} {k:Int} {st:List Int} {inp:Int}
end
def WZ (sq:List Cr) (i:Nat):List Cr:=(sq.take i).map CE++sq.drop i
theorem pJ {sq:List Cr} {s:Cr} {i:Nat} (h:sq[i]? = some s):(WZ sq i)[i]? = some s:=by
 have hi:=(zz1.1 h).1;unfold WZ;rw[zz5 (by simp;omega)];simp only[AB7,ACC];rw[ABn,show i+(i - min i sq.length)=i by omega,h]
theorem kX {sq:List Cr} {s:Cr} {i:Nat} (h:sq[i]? = some s):(WZ sq i).set i (CE s)=WZ sq (i+1):=by
 obtain⟨hi,e⟩:=zz1.1 h;unfold WZ;rw[List.set_append_right _ _ (by simp;omega),Ba h,ABe,AB2]
 congr 1
 rw[AB7,ACC,show i - min i sq.length=0 by omega,List.drop_eq_getElem_cons hi,e];rfl
theorem mY {sq:List Cr} {i:Nat}:(WZ sq i).length=sq.length:=by unfold WZ;simp;omega
theorem lU {sq:List Cr}:WZ sq sq.length=sq.map CE:=by unfold WZ;simp
theorem iN {sq:List Cr}:WZ sq 0=sq:=by unfold WZ;simp
theorem Hb (x:AK) (hx:Cz 1048576 x) (h1:0≤x.1∧x.1≤20) (h2:x.2.1.length≤12):Bx Tryz.prog 71 [Ge x] (.tup [Ge ((x.1,x.2.1.map CE,[],[]):AK),ints (BB (Aa x))]):=by
 obtain⟨f1,f2,f3,f4⟩:=hx;have hF:(Aa x:Int)=1+x.1+x.2.1.length:=by unfold Aa;omega
 refine B3 (by kernel_rfl) Tryz.func71 rfl rfl rfl ?_;simp[Ao];refine AJ 7 (by kernel_rfl) ?_;simp[Ao];refine Ab (Jo x.2.1 f1 f2) ?_;simp[Ao];refine AB [false,true,true,false,true,true,true] (fun i:Nat=>i≤Aa x) (fun i:Nat=>[(6,.d (.int .i64 i))]) (fun i:Nat=>[(4,.arr 3 true ((BB i).map (e1 AC)))]) (fun i:Nat=>Aa x - i) 0 ?_ ?_ ?_
 · exact Nat.zero_le _
 · exact⟨[0,1,2,3,4],by simp[BB]⟩
 rintro I S μ hI hS hμ i hi;by_cases hlt:i<Aa x
 · have w1:IntKind.i64.wrap ((i:Int)+1)=(i:Int)+1:=Ad (by omega) (by omega);have w2:IntKind.i64.wrap (2*(i:Int))=2*(i:Int):=Ad (by omega) (by omega);have hll:=CO (n:=i);have hsn:=Lq (n:=i);generalize BB i=p at *;simp[Ao];refine Ab (BE x h1 h2) ?_;simp[Ao,show (i:Int)<1+x.1+x.2.1.length by omega,w2];refine Ak As rfl (by simp) rfl (by simp) (by simp) (by first | (simp;done)|(simp;omega)) (by simp[AR,AL]) ?_;simp[w1];exact Ae hI hS hμ (i+1) (by omega) (by omega) ⟨[0,1,2,3,6],by simp[hsn,e1,AC]⟩
 obtain rfl:i=Aa x:=by omega
 clear hI hS hμ;simp[Ao];refine Ab (BE x h1 h2) ?_;simp[Ao,show ¬ ((Aa x:Nat):Int)<1+x.1+x.2.1.length by omega];generalize BB (Aa x)=p at *;refine AB [false,false,true,false,true,true,false,true] (fun i:Nat=>i≤x.2.1.length) (fun i:Nat=>[(7,.d (.int .i64 i))]) (fun i:Nat=>[(2,.arr 57 true ((WZ x.2.1 i).map AY))]) (fun i:Nat=>x.2.1.length - i) 0 ?_ ?_ ?_
 · exact Nat.zero_le _
 · exact⟨[0,1,2,3,4],by simp[iN]⟩
 rintro I S μ hI hS hμ i hi;have hzl:=mY (sq:=x.2.1) (i:=i);by_cases hlt:i<x.2.1.length
 · obtain⟨s,hx1⟩:∃ s,x.2.1[i]? = some s:=⟨_,zz0 hlt⟩;have hat:=pJ hx1;have hset:=kX hx1;have hf:=f2 _ (zz6 hx1);have hL:(AY s).length=3:=rfl;have w1:IntKind.i64.wrap ((i:Int)+1)=(i:Int)+1:=Ad (by omega) (by omega)
   have hse:((WZ x.2.1 i).map AY).set i [D.int .i64 s.1,D.int .i64 s.2.1,D.sl 3 (List.replicate s.2.2.length [D.int .i64 0])]=(WZ x.2.1 (i+1)).map AY:=by
    rw[←hset,List.map_set];simp[AY,e3,AC,Dh,e1,CE,List.map_const']
   generalize hz2:WZ x.2.1 (i+1)=z2 at *;generalize WZ x.2.1 i=z1 at *;clear hset;simp[zz2 hlt,hzl];refine AJ 11 (by kernel_rfl) ?_;simp[hat,hL,AY,hzl];simp[hse,w1];refine⟨by omega,?_⟩;exact Ae hI hS hμ (i+1) (by omega) (by omega) ⟨[0,1,2,3,4],by simp[hz2]⟩
 · obtain rfl:i=x.2.1.length:=by omega
   rw[lU];simp[hlt,zz3 hlt,Ao]
end Go.Proofs.YtnjedabjbeipeaaGreat
