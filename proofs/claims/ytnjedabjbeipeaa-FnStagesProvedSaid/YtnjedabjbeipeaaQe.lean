/-
  Propagation in the reference; consequences and proofs, by abstract walks: both sides.
  Conditions: those typed in each theorem.
-/
import Derived.Test.YtnjedabjbeipeaaQb
namespace Go.Proofs.Ytnjedabjbeipeaa
open Go.RowKit Go.ChangeShapes Go.WideShapes
set_option linter.unusedSimpArgs false
set_option linter.unusedVariables false
set_option maxRecDepth 100000
set_option maxHeartbeats 10000000
theorem ZH (cls:List BB) (v:Nat) (cl:List Int) (hv:v≤400) (hc:ID 1048576 cls) (hcl:BK v cls) (hl:cl.length≤1048576) (hli:∀ l∈cl,Cu v l):CI Try.prog 129 [cQ (v,cls),ints cl] (.d (.bool (Gv v cls cl))):=by
 generalize hF:Gv v cls cl=F;unfold Gv at hF;refine BD (by kernel_rfl) Try.func129 rfl rfl rfl ?_;simp[FP,show (v:Int)≤1099511627776 by omega];refine AY [false,false,true,false,false,true,false,false,false,false,false,false,false,true,true,true] (fun i:Nat×List Int=>i.1≤cl.length∧i.2.length=v∧Cj i.2∧Hz (cl.drop i.1) i.2=Hz cl (List.replicate v 0)) (fun i:Nat×List Int=>[(15,.d (.int .i64 i.1))]) (fun i:Nat×List Int=>[(1,.arr 3 true (i.2.map (e1 Az)))]) (fun i:Nat×List Int=>cl.length - i.1) (0,List.replicate v 0) ?_ ?_ ?_
 · exact⟨by omega,by simp,FZ v,rfl⟩
 · exact⟨[0,1],by simp⟩
 rintro I S μ hI hS hμ ⟨k,q⟩ ⟨hk,hq,hqt,hn⟩;simp only at hk hq hqt hn;have hd:decide (k<cl.length)=decide (k<cl.length):=rfl;by_cases hlt:k<cl.length
 · have hx1:cl[k]? = some cl[k]:=zz0 hlt;have w2:IntKind.i64.wrap ((k:Int)+1)=(k:Int)+1:=Af (by omega) (by omega);have hd:decide (k<cl.length)=true:=zz2 hlt;rw[eL hx1] at hn;have hlx:=hli cl[k] (AB7 _);generalize cl[k]=y at *;simp[hd,hx1];refine Ab (UP q y (by omega) hqt (by rw[hq];exact hlx)) ?_;simp;by_cases hv1:Bq q y=1
   · rw[if_pos hv1] at hn;rw[←hn] at hF;simp only at hF;simp[hv1,←hF]
   rw[if_neg hv1] at hn;have hv1':(Bq q y==1)=false:=by simpa using hv1
   have hts:=Dt hqt (-y);have hls:=CG q (-y);rcases C1 hlx with ⟨m,hm,e⟩|⟨m,hm,e⟩
   · have hse:Co q (-y)=q.set m (-1):=by rw[e];exact bC q m
     rw[hse] at hn hts hls;have hg:=getD_some (p:=q) (m:=m) (by omega);have w3:IntKind.i64.wrap (y - 1)=(m:Int):=by rw[Af (by omega) (by omega)];omega
     have hset:=Gz (q:=q) (m:=m) (v:=-1);generalize q.set m (-1)=q3 at *;generalize q.getD m 0=z0 at hg;simp[hv1,hv1',show 0<y by omega,show ¬ y≤0 by omega,w3,hg,hset,w2];exact Ae hI hS hμ (k+1,q3) ⟨by simp;omega,by simp;omega,hts,hn⟩ (by simp;omega) ⟨[0,1],by simp⟩
   · have hse:Co q (-y)=q.set m 1:=by rw[e];exact Ku q m
     rw[hse] at hn hts hls;have hg:=getD_some (p:=q) (m:=m) (by omega);have w3:IntKind.i64.wrap (-y)=(m:Int)+1:=by rw[Af (by omega) (by omega)];omega
     have w4:IntKind.i64.wrap (m:Int)=(m:Int):=Af (by omega) (by omega);have hset:=Gz (q:=q) (m:=m) (v:=1);generalize q.set m 1=q3 at *;generalize q.getD m 0=z0 at hg;simp[hv1,hv1',show ¬ 0<y by omega,show y≤0 by omega,w3,w4,hg,hset,w2];exact Ae hI hS hμ (k+1,q3) ⟨by simp;omega,by simp;omega,hts,hn⟩ (by simp;omega) ⟨[0,1],by simp⟩
 · have hk':k=cl.length:=by omega
   subst hk';rw[List.drop_length,Hz] at hn;rw[←hn] at hF;simp only at hF;simp[hlt,zz3 hlt];have hP:=FW cls q _ rfl hc (by omega) hqt (by rw[hq];exact hcl);generalize En cls q=R at *;refine Ab (hP) ?_;simp[hF]
def Fx (v:Int):List BB→List BB→Bool
 | _,[]=>true
 | all,c::cs=>CL v c&&Gv v.toNat all c&&Fx v (all++[c]) cs
def JU (v:Int) (cls pf:List BB):Bool :=
 Fc v cls&&rng pf.length 1 600&&decide (cls.length+pf.length≤1600)&&decide ((pf.getD (pf.length - 1) []).length=0)&&Fx v cls pf
theorem fP {v:Int} {pf all:List BB} {k:Nat} {x:BB} (hx:pf[k]? = some x):Fx v all (pf.drop k)=(CL v x&&Gv v.toNat all x&&Fx v (all++[x]) (pf.drop (k+1))):=by
 obtain⟨hk,rfl⟩:=zz1.1 hx;rw[List.drop_eq_getElem_cons hk,Fx]
theorem WY (x:Xr) (pf:List BB) (hx:Yy 1048576 x) (hp:ID 1048576 pf):CI Try.prog 76 [cQ x,Un pf] (.d (.bool (JU x.1 x.2 pf))):=by
 obtain⟨v,cls⟩:=x;have hx0:=hx;obtain⟨hx1',hx2⟩:=hx;obtain⟨hp1,hp2⟩:=hp;simp only at hx1' hx2;have hB:JU v cls pf=(Fc v cls&&rng pf.length 1 600&&decide (cls.length+pf.length≤1600)&&decide ((pf.getD (pf.length - 1) []).length=0)&&Fx v cls pf):=rfl;simp only;generalize hF:JU v cls pf=F at *;refine E1 (by kernel_rfl) Try.func76 rfl rfl rfl ?_;simp[FP];refine Ab (Qv (v,cls) hx0) ?_;simp
 cases hok:Fc v cls with
 | false =>
   rw[hok] at hB;simp only[Bool.false_and] at hB;simp[hok,hB]
 | true =>
 simp[hok];refine Ab (CU _ _ _) ?_;simp;have w1:IntKind.i64.wrap ((cls.length:Int)+pf.length)=(cls.length:Int)+pf.length:=Af (by omega) (by omega);rcases ACS (rng pf.length 1 600) with hr|hr
 case inr =>
  rw[hok,hr] at hB;simp only[Bool.and_false,Bool.false_and] at hB;simp[hr,hB]
 have hr2:=AN.1 hr;by_cases hs:cls.length+pf.length≤1600
 case neg =>
  rw[hok,hr,zz3 hs] at hB;simp only[Bool.and_false,Bool.false_and] at hB;simp[hr,hB,w1,show (1600:Int)<(cls.length:Int)+pf.length by omega,show ¬ ((cls.length:Int)+pf.length≤1600) by omega]
 have hm1:pf[pf.length - 1]? = some (pf.getD (pf.length - 1) []):=by
  rw[List.getD_eq_getElem?_getD,zz0 (by omega)];rfl
 have w2:IntKind.i64.wrap ((pf.length:Int) - 1)=(pf.length:Int) - 1:=Af (by omega) (by omega);have w3:((pf.length:Int) - 1).toNat=pf.length - 1:=by omega
 have hfl:(pf.getD (pf.length - 1) []).length≤1048576:=hp2 _ (zz6 hm1);generalize pf.getD (pf.length - 1) []=y at *;have hL:(Aq y).length=1:=rfl;by_cases hy:y.length=0
 case neg =>
  rw[hok,hr,zz2 hs,zz3 hy] at hB;simp only[Bool.and_false,Bool.false_and] at hB;simp[hr,hB,w1,show ¬ (1600:Int)<(cls.length:Int)+pf.length by omega,show ((cls.length:Int)+pf.length≤1600) by omega,w2,w3,hm1,hL,show ¬ (pf.length:Int) - 1<0 by omega,show ¬ (pf.length:Int)<1 by omega,show (1:Int)≤pf.length by omega,Aq,show 0<y.length by omega,hy]
 have hyn:y=[]:=zz7 hy;rw[hok,hr,zz2 hs,zz2 hy] at hB;simp only[Bool.true_and] at hB;simp[hr,w1,show ¬ (1600:Int)<(cls.length:Int)+pf.length by omega,show ((cls.length:Int)+pf.length≤1600) by omega,w2,w3,hm1,hL,show ¬ (pf.length:Int) - 1<0 by omega,show ¬ (pf.length:Int)<1 by omega,show (1:Int)≤pf.length by omega,Aq,hyn];refine AS [(5,[0,1,7]),(6,[7]),(8,[])] (by kernel_rfl) ?_;simp[FP];refine C6 (by exact rfl) AK (by exact rfl) (by simp) (by simp[Aq,e1]) (by first | (simp;done)|(simp;omega)) ?_;simp[FP]
 have hv4:rng v 0 400=true:=by
  have:Fc v cls=(rng v 0 400&&decide (cls.length≤1600)&&Z4 v cls):=rfl;rw[hok] at this
  cases h:rng v 0 400 with
  | true=>rfl
  | false=>rw[h] at this;simp at this
 obtain⟨n,rfl⟩:∃ n:Nat,v=n:=⟨v.toNat,by have:=AN.1 hv4;omega⟩;have hn4:=AN.1 hv4;have hci:BK n cls:=ET hok;refine AY [false,false,true,false,false,true,false,false,false,false,false,false,false,false,false,false,false,false,false,false,false,false,false,false,false,false,false,false,false,false,false,false,false,false,false,false,false,false,false,false,false,false,false,true,true,true] (fun i:Nat×List BB=>i.1≤pf.length∧Fx n i.2 (pf.drop i.1)=F∧i.2.length=cls.length+i.1∧(∀ c∈i.2,c.length≤1048576)∧BK n i.2) (fun i:Nat×List BB=>[(45,.d (.int .i64 i.1))]) (fun i:Nat×List BB=>[(3,.arr 26 false (i.2.map Aq))]) (fun i:Nat×List BB=>pf.length - i.1) (0,cls) ?_ ?_ ?_
 · exact⟨by omega,hB.symm,by simp,hx2,hci⟩
 · exact⟨[0,1,2,3],by simp⟩
 rintro I S μ hI hS hμ ⟨k,all⟩ ⟨hk,hg,hal,hac,hin⟩;simp only at hk hg hal hac hin;by_cases hlt:k<pf.length
 · have hx1:pf[k]? = some pf[k]:=zz0 hlt;have w5:IntKind.i64.wrap ((k:Int)+1)=(k:Int)+1:=Af (by omega) (by omega);have hd:decide (k<pf.length)=true:=zz2 hlt;rw[fP hx1] at hg;have hcl:=hp2 _ (AB7 hlt);generalize pf[k]=c at *;have hLc:(Aq c).length=1:=rfl;simp[hd,hx1,hLc,Aq];refine Ab (KV c n (by omega) hcl) ?_;simp;rcases ACS (CL n c) with hr1|hr1
   case inr =>
    rw[hr1] at hg;simp only[Bool.false_and] at hg;simp[hr1,←hg]
   have hcon:=ZH all n c (by omega) ⟨by omega,hac⟩ hin hcl (Gb hr1);simp[hr1];refine Ab (hcon) ?_;simp;rcases ACS (Gv n all c) with hr3|hr3
   case inr =>
    rw[hr1,show (n:Int).toNat=n from Int.toNat_natCast n,hr3] at hg;simp only[Bool.true_and,Bool.false_and] at hg;simp[hr3,←hg]
   rw[hr1,show (n:Int).toNat=n from Int.toNat_natCast n,hr3] at hg;simp only[Bool.true_and] at hg;simp[hr3];have hsn:all.map Aq++[[D.sl 3 (c.map (e1 Az))]]=(all++[c]).map Aq:=by simp[Aq,e1]
   refine C6 (es:=all.map Aq) (es2:=[[D.sl 3 (c.map (e1 Az))]]) (by exact rfl) AK (by exact rfl) (by simp) (by simp) (by simp;omega) ?_;rw[hsn]
   have hcl2:∀ q∈all++[c],q.length≤1048576:=fun q hq=>by
    rcases ACE.1 hq with h|h
    · exact hac q h
    · rw[zz9.1 h];exact hcl
   have hin2:BK n (all++[c]):=fun q hq=>by
    rcases ACE.1 hq with h|h
    · exact hin q h
    · rw[zz9.1 h];exact Gb hr1
   have hlen2:(all++[c]).length=cls.length+(k+1):=by simp;omega
   generalize all++[c]=all2 at *;simp[w5];exact Ae hI hS hμ (k+1,all2) ⟨by simp;omega,hg,hlen2,hcl2,hin2⟩ (by simp;omega) ⟨[0,1,2,5],by simp⟩
 · have hk':k=pf.length:=by omega
   subst hk';rw[List.drop_length,Fx] at hg;simp[hlt,zz3 hlt,←hg]
end Go.Proofs.Ytnjedabjbeipeaa
