/-
  The net that compares two nets is a net. Plain lemmas.
  Conditions: those typed in each theorem.
-/
import Derived.Test.YtnjedabjbeipeaaGreatRr
import Derived.Test.YtnjedabjbeipeaaGreatKa
namespace Go.Proofs.YtnjedabjbeipeaaGreat
open Go.RowKit Go.ChangeShapes Go.WideShapes
set_option linter.unusedSimpArgs false
set_option linter.unusedVariables false
set_option maxRecDepth 100000
set_option maxHeartbeats 10000000
theorem Te {m:AK} {ra rb:List Int} {an0:List Ai} (hf:0<Aa m) (h0:Al (Ap m an0)=true) (h300:an0.length≤300)
 (hA:∀ k∈ra,0≤k∧k<2*((Aa m:Int)+an0.length)) (hB:∀ k∈rb,0≤k∧k<2*((Aa m:Int)+an0.length)) {n:Nat} (hn:n≤ra.length) (hm:n≤rb.length) :
 ∀ i,i≤n→(Bf (Aa m) ra rb an0 i).2.2=true→Al (Ap m (Bf (Aa m) ra rb an0 i).2.1)=true
 | 0,_,_=>h0
 | i+1,hi,h=>by
   have ih:=Te hf h0 h300 hA hB hn hm i (by omega);have hgf:=Fd (fa:=Aa m) (by omega) h300 hA hB hn hm i (by omega);obtain⟨⟨s,an,b⟩,hst⟩:∃ q,Bf (Aa m) ra rb an0 i=q:=⟨_,rfl⟩;rw[hst] at ih hgf
   cases b with
   | false =>
     rw[Bf,hst,if_pos rfl] at h;simp at h
   | true =>
   have ih:=ih rfl;obtain⟨g1,g2,g3⟩:=hgf rfl;simp only at ih g1 g2 g3;have hstp:=FL hst;have hx1:ra[i]? = some (ra.getD i 0):=by rw[List.getD_eq_getElem?_getD,A1 (by omega)];rfl
   have hx2:rb[i]? = some (rb.getD i 0):=by rw[List.getD_eq_getElem?_getD,A1 (by omega)];rfl
   have b1:=hA _ (D4 hx1);have b2:=hB _ (D4 hx2);generalize ra.getD i 0=xa at *;generalize rb.getD i 0=xb at *;have hgN:(A0 (Ap m an):Int)=Aa m+an.length:=by rw[Ct];omega
   have eX:=U5 (x:=Ap m an) (a:=xa) (b:=xb) g3 (by omega) (by omega);have hmX:=OD (x:=Ap m an) (a:=xa) (b:=xb) ih;have xr:=HO (fa:=Aa m) (an:=an) (a:=xa) (b:=xb) (by omega) g3 (by omega) (by omega);have eF:Cz (Aa (Ap m an)) (Ap m an).2.2.1 xa xb=Cz (Aa m) an xa xb:=rfl;rw[eF] at eX;obtain⟨⟨xv,an1⟩,hX⟩:∃ q,Cz (Aa m) an xa xb=q:=⟨_,rfl⟩;rw[hX] at eX xr hstp;obtain⟨x1,x2,x3,x4⟩:=xr;simp only at x1 x2 x3 x4 hstp eX;by_cases hv:xv<0
   · rw[if_pos hv] at hstp;rw[hstp] at h;simp at h
   rw[if_neg hv] at eX hstp;rw[eX] at hmX;simp only at hmX;have hgN2:(A0 (Ap (Ap m an) an1):Int)=Aa m+an1.length:=by rw[Ct,show Aa (Ap m an)=Aa m from rfl];omega
   have eO:=PB (x:=Ap (Ap m an) an1) (a:=s) (b:=xv) (by omega) (by omega);rw[show Aa (Ap (Ap m an) an1)=Aa m from rfl,show (Ap (Ap m an) an1).2.2.1=an1 from rfl] at eO;have hmO2:=(LU (x:=Ap (Ap m an) an1) (a:=s) (b:=xv) hmX).2.2;by_cases hv2:Gw (Aa m) an1 s xv<0
   · rw[if_pos hv2] at hstp;rw[hstp] at h;simp at h
   rw[if_neg hv2] at eO hstp;rw[eO] at hmO2;rw[hstp];exact hmO2
theorem Zk {a b:AK} (h:Ek a b=true):Al (Fx a b)=true∧(Fx a b).2.2.2=[(DN a b).1]∧J0 (DN a b).1:=by
 have hG:Fx a b=if Ek a b=true then (a.1+(a.2.1.length:Int),[],(DN a b).2.1,[(DN a b).1]) else (0,[],[],[]):=rfl;rw[if_pos h] at hG;have hO:Ek a b=(G3 a b&&(Cq a).2.2&&(Cw a b).2.2&&(DN a b).2.2):=rfl;rw[h] at hO;have hO:=hO.symm;simp only[Bool.and_eq_true] at hO;obtain⟨⟨⟨hC,o1⟩,o2⟩,o3⟩:=hO;obtain⟨hoa,hob,h1,h2,h3,h4,hfb,hrl⟩:=Hy hC;obtain⟨⟨n1,n2,n3,n4,n5,n6⟩,-,-,-⟩:=AA hoa;obtain⟨⟨m1,m2,m3,m4,m5,m6⟩,-,-,-⟩:=AA hob;obtain⟨hFa,hga,hNa,-⟩:=A9 hoa;obtain⟨hFb,hgb,hNb,-⟩:=A9 hob;have hNea:=Br a;have hNeb:=Br b;obtain⟨I,hI⟩:∃ I,a.1+(a.2.1.length:Int)=I:=⟨_,rfl⟩;rw[hI] at hG;have hI20:0≤I∧I≤20:=by omega
 have hfm:Aa ((I,[],[],[]):AK)=Aa a:=by unfold Aa;simp;unfold Aa at hFa;omega
 have hm0:Al ((I,[],[],[]):AK)=true:=by
  unfold Al Bz;rw[if_pos ⟨AP.2 (by omega),by simp,by simp,by simp⟩];simp[Ay,JE,BU];omega
 have p1:=Hu (x:=a) hoa (an0:=[]) (by simp) rfl (i:=a.2.2.1.length) (Nat.le_refl _);have hi1:Dk a [] a.2.2.1.length=Cq a:=rfl;rw[hi1] at p1;have hi2:Dk b (Cq a).2.1 b.2.2.1.length=Cw a b:=rfl;have p2:=Hu (x:=b) hob p1.1.an (by rw[hfb];exact p1.1.ok) (i:=b.2.2.1.length) (Nat.le_refl _);rw[hi2] at p2;have hMr:DN a b=Bf (Aa a) (Bo a (Cq a).1) (Bo b (Cw a b).1) (Cw a b).2.1 (Ay a).length:=rfl;have hra:(Bo a (Cq a).1).length=(Ay a).length:=by simp[Bo]
 have hrb:(Bo b (Cw a b).1).length=(Ay a).length:=by simp[Bo,hrl]
 have h300:(Cw a b).2.1.length≤300:=p2.1.an;have hmB:Al (Ap ((I,[],[],[]):AK) (Cw a b).2.1)=true:=CY hm0 (by simp) p2.1.an (by rw[hfm,←hfb];exact p2.1.ok);have hpA:=p1.1.pl;have hpB:=p2.1.pl;rw[hfb] at hpB;have hle:=p2.2
 have hrA:∀ k:Int,k∈Bo a (Cq a).1→0≤k∧k<2*((Aa a:Int)+(Cw a b).2.1.length):=fun k hk=>by
  obtain⟨l,-,rfl⟩:=CE.1 hk;have hq:JY ((Aa a:Int)+(Cw a b).2.1.length) (Cq a).1:=HM hpA (by omega);exact Bp (BK hq (by omega) _) (by omega)
 have hrB:∀ k:Int,k∈Bo b (Cw a b).1→0≤k∧k<2*((Aa a:Int)+(Cw a b).2.1.length):=fun k hk=>by
  obtain⟨l,-,rfl⟩:=CE.1 hk;exact Bp (BK hpB (by omega) _) (by omega)
 have hgf:=Fd (fa:=Aa a) (by omega) h300 hrA hrB (n:=(Ay a).length) (by omega) (by omega) _ (Nat.le_refl _);have hgn:=Te (m:=((I,[],[],[]):AK)) (by omega) hmB h300 (by rw[hfm];exact hrA) (by rw[hfm];exact hrB) (n:=(Ay a).length) (by omega) (by omega) _ (Nat.le_refl _);rw[hfm,←hMr] at hgn;rw[←hMr] at hgf;obtain⟨g1,g2,g3⟩:=hgf o3;have hgn:=hgn o3;generalize DN a b=R at *;obtain⟨l,an,bb⟩:=R;simp only at g1 g2 g3 hgn hG;rw[hG];refine⟨?_,rfl,by unfold J0;simp only;omega⟩
 have hn:Bz ((I,[],an,[l]):AK)=1+I+an.length:=by
  unfold Bz;rw[if_pos ⟨AP.2 hI20,by simp,g3,by simp⟩];simp
 have hA:=QQ hgn;rw[show Aa (Ap ((I,[],[],[]):AK) an)=Aa a from hfm] at hA;unfold Al;rw[hn];simp only[Bool.and_eq_true,decide_eq_true_eq];refine⟨⟨⟨by omega,by simp⟩,?_⟩,?_⟩
 · simp only[JE,Ay,List.map_nil,List.flatten_nil,List.append_nil,List.all_cons,List.all_nil,Bool.and_true];exact AP.2 (by omega)
 · have e:(1+I+(([]:List Cx).length:Int))=Aa a:=by rw[List.length_nil];omega
   rw[e];exact hA
def yT (x:AK) (l:Int):Int:=if 0≤l / 2 - 1 - x.1∧l / 2 - 1 - x.1<x.2.1.length∧(pP x (l / 2 - 1 - x.1).toNat).1=0 then l / 2 - 1 - x.1 else -1
def wY (x:AK) (k:Int):Ai:=(x.2.2.1[k.toNat]?).getD (0,0)
def Dx (pl:List Int) (s:Cx):Cx:=(s.1,s.2.1,s.2.2.map (Aq pl))
def CI (s:Cx):Cx:=(s.1,s.2.1,s.2.2.map fun _=>0)
def yN (x:AK) (st:List Int) (l:Int):Int:=(A3 st (yT x l)+l % 2) % 2
def vF (x:AK) (k:Int) (st:List Int):Int:=yN x st (wY x k).1*yN x st (wY x k).2
section
variable {x:AK} {st:List Int} {inp:Int}
end
section
variable {x:AK} {k:Int} {st:List Int} {inp:Int}
end
def Xv (sq:List Cx) (i:Nat):List Cx:=(sq.take i).map CI++sq.drop i
theorem qM {sq:List Cx} {s:Cx} {i:Nat} (h:sq[i]? = some s):(Xv sq i)[i]? = some s:=by
 have hi:=(BZ.1 h).1;unfold Xv;rw[ET (by simp;omega)];simp only[Fy,Gf];rw[CL,show i+(i - min i sq.length)=i by omega,h]
theorem mI {sq:List Cx} {s:Cx} {i:Nat} (h:sq[i]? = some s):(Xv sq i).set i (CI s)=Xv sq (i+1):=by
 obtain⟨hi,e⟩:=BZ.1 h;unfold Xv;rw[List.set_append_right _ _ (by simp;omega),Bb h,Gh,FA]
 congr 1
 rw[Fy,Gf,show i - min i sq.length=0 by omega,List.drop_eq_getElem_cons hi,e];rfl
theorem mH {sq:List Cx} {i:Nat}:(Xv sq i).length=sq.length:=by unfold Xv;simp;omega
theorem oJ {sq:List Cx}:Xv sq sq.length=sq.map CI:=by unfold Xv;simp
theorem gX {sq:List Cx}:Xv sq 0=sq:=by unfold Xv;simp
theorem Hx (x:AK) (hx:CF 1048576 x) (h1:0≤x.1∧x.1≤20) (h2:x.2.1.length≤12):BA Tryz.prog 71 [GD x] (.tup [GD ((x.1,x.2.1.map CI,[],[]):AK),ints (BD (Aa x))]):=by
 obtain⟨f1,f2,f3,f4⟩:=hx;have hF:(Aa x:Int)=1+x.1+x.2.1.length:=by unfold Aa;omega
 refine B7 (by kernel_rfl) Tryz.func71 rfl rfl rfl ?_;simp[Ao];refine AH 7 (by kernel_rfl) ?_;simp[Ao];refine Ab (JV x.2.1 f1 f2) ?_;simp[Ao];refine AB [false,true,true,false,true,true,true] (fun i:Nat=>i≤Aa x) (fun i:Nat=>[(6,.d (.int .i64 i))]) (fun i:Nat=>[(4,.arr 3 true ((BD i).map (e1 AC)))]) (fun i:Nat=>Aa x - i) 0 ?_ ?_ ?_
 · exact Nat.zero_le _
 · exact⟨[0,1,2,3,4],by simp[BD]⟩
 rintro I S μ hI hS hμ i hi;by_cases hlt:i<Aa x
 · have w1:IntKind.i64.wrap ((i:Int)+1)=(i:Int)+1:=Ad (by omega) (by omega);have w2:IntKind.i64.wrap (2*(i:Int))=2*(i:Int):=Ad (by omega) (by omega);have hll:=CV (n:=i);have hsn:=LQ (n:=i);generalize BD i=p at *;simp[Ao];refine Ab (BJ x h1 h2) ?_;simp[Ao,show (i:Int)<1+x.1+x.2.1.length by omega,w2];refine Ak As rfl (by simp) rfl (by simp) (by simp) (by first | (simp;done)|(simp;omega)) (by simp[AR,AL]) ?_;simp[w1];exact Ae hI hS hμ (i+1) (by omega) (by omega) ⟨[0,1,2,3,6],by simp[hsn,e1,AC]⟩
 obtain rfl:i=Aa x:=by omega
 clear hI hS hμ;simp[Ao];refine Ab (BJ x h1 h2) ?_;simp[Ao,show ¬ ((Aa x:Nat):Int)<1+x.1+x.2.1.length by omega];generalize BD (Aa x)=p at *;refine AB [false,false,true,false,true,true,false,true] (fun i:Nat=>i≤x.2.1.length) (fun i:Nat=>[(7,.d (.int .i64 i))]) (fun i:Nat=>[(2,.arr 57 true ((Xv x.2.1 i).map AY))]) (fun i:Nat=>x.2.1.length - i) 0 ?_ ?_ ?_
 · exact Nat.zero_le _
 · exact⟨[0,1,2,3,4],by simp[gX]⟩
 rintro I S μ hI hS hμ i hi;have hzl:=mH (sq:=x.2.1) (i:=i);by_cases hlt:i<x.2.1.length
 · obtain⟨s,hx1⟩:∃ s,x.2.1[i]? = some s:=⟨_,A1 hlt⟩;have hat:=qM hx1;have hset:=mI hx1;have hf:=f2 _ (D4 hx1);have hL:(AY s).length=3:=rfl;have w1:IntKind.i64.wrap ((i:Int)+1)=(i:Int)+1:=Ad (by omega) (by omega)
   have hse:((Xv x.2.1 i).map AY).set i [D.int .i64 s.1,D.int .i64 s.2.1,D.sl 3 (List.replicate s.2.2.length [D.int .i64 0])]=(Xv x.2.1 (i+1)).map AY:=by
    rw[←hset,List.map_set];simp[AY,e3,AC,Dr,e1,CI,List.map_const']
   generalize hz2:Xv x.2.1 (i+1)=z2 at *;generalize Xv x.2.1 i=z1 at *;clear hset;simp[A8 hlt,hzl];refine AH 11 (by kernel_rfl) ?_;simp[hat,hL,AY,hzl];simp[hse,w1];refine⟨by omega,?_⟩;exact Ae hI hS hμ (i+1) (by omega) (by omega) ⟨[0,1,2,3,4],by simp[hz2]⟩
 · obtain rfl:i=x.2.1.length:=by omega
   rw[oJ];simp[hlt,BH hlt,Ao]
end Go.Proofs.YtnjedabjbeipeaaGreat
