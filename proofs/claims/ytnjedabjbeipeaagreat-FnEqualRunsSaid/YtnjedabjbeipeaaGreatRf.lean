/-
  The formula of a net, by abstract walks: both sides.
  Conditions: those typed in each theorem.
-/
import Derived.Test.YtnjedabjbeipeaaGreatNo
namespace Go.Proofs.YtnjedabjbeipeaaGreat
open Go.RowKit Go.ChangeShapes Go.WideShapes
set_option linter.unusedSimpArgs false
set_option linter.unusedVariables false
set_option maxRecDepth 100000
set_option maxHeartbeats 10000000
def A5 (l:Int):Int:=if DX l 0 800=true then (if l % 2=1 then -(l / 2+1) else l / 2+1) else 0
theorem Il (l:Int):-401≤A5 l∧A5 l≤401:=by
 unfold A5;split
 · rename_i h;have:=AP.1 h;split<;>omega
 · omega
theorem Kp (l:Int):BA Tryz.prog 59 [.d (.int .i64 l)] (.d (.int .i64 (A5 l))):=by
 refine A6 (by kernel_rfl) Tryz.func59 rfl rfl rfl ?_;simp;refine Ab (Fo _ _ _) ?_;simp;rcases Ep (DX l 0 800) with h|h
 · have hr:=AP.1 h;have w1:l.tmod 2=l % 2:=Int.tmod_eq_emod_of_nonneg hr.1;have w2:IntKind.i64.wrap (l.tdiv 2)=l / 2:=by rw[Int.tdiv_eq_ediv_of_nonneg hr.1,Ad (by omega) (by omega)]
   have w3:IntKind.i64.wrap (l / 2+1)=l / 2+1:=Ad (by omega) (by omega);have w4:IntKind.i64.wrap (-(l / 2+1))=-(l / 2+1):=Ad (by omega) (by omega);by_cases h1:l % 2=1
   · have hl:A5 l=-(l / 2+1):=by unfold A5;rw[if_pos h,if_pos h1]
     simp[h,w1,w2,w3,w4,h1,hl]
   · have hl:A5 l=l / 2+1:=by unfold A5;rw[if_pos h,if_neg h1]
     simp[h,w1,w2,w3,w4,h1,hl,show (l % 2==1)=false by simpa using h1]
 · have hl:A5 l=0:=by unfold A5;rw[if_neg (by simp[h])]
   simp[h,hl]
theorem Kz (l:Int):BA Tryz.prog 43 [.d (.int .i64 l)] (.d (.int .i64 (A5 l))):=by
 refine A6 (by kernel_rfl) Tryz.func43 rfl rfl rfl ?_;by_cases hn:l<0
 · have hl:A5 l=0:=by unfold A5;rw[if_neg (fun h=>by have:=AP.1 h;omega)]
   simp[A8 hn,hn,hl]
 by_cases hm:800<l
 · have hl:A5 l=0:=by unfold A5;rw[if_neg (fun h=>by have:=AP.1 h;omega)]
   simp[BH hn,hn,A8 hm,hm,hl]
 have h:DX l 0 800=true:=AP.2 (by omega);have w1:l.tmod 2=l % 2:=Int.tmod_eq_emod_of_nonneg (by omega);have w2:IntKind.i64.wrap (l.tdiv 2)=l / 2:=by rw[Int.tdiv_eq_ediv_of_nonneg (by omega),Ad (by omega) (by omega)]
 have w3:IntKind.i64.wrap (l / 2+1)=l / 2+1:=Ad (by omega) (by omega);have w4:IntKind.i64.wrap (-(l / 2+1))=-(l / 2+1):=Ad (by omega) (by omega);by_cases h1:l % 2=1
 · have hl:A5 l=-(l / 2+1):=by unfold A5;rw[if_pos h,if_pos h1]
   simp[BH hn,hn,BH hm,hm,w1,w2,w3,w4,h1,hl]
 · have hl:A5 l=l / 2+1:=by unfold A5;rw[if_pos h,if_neg h1]
   simp[BH hn,hn,BH hm,hm,w1,w2,w3,w4,h1,hl,show (l % 2==1)=false by simpa using h1]
def Lu (x:AK) (v:Nat):List BW :=
 [[-((v:Int)+1),A5 (Aj x v).1],[-((v:Int)+1),A5 (Aj x v).2],[(v:Int)+1,-A5 (Aj x v).1,-A5 (Aj x v).2]]
def Kf (x:AK) (k:Int):List BW:=if Aa x≤k.toNat then Lu x k.toNat else []
def DI (x:AK) (ks:List Int):List BW:=[-1]::ks.flatMap (Kf x)
def Ez (x:AK) (lit:Int):List BW:=DI x (C4 (Dr x (lit.toNat / 2)))++[[A5 lit]]
def Dm (x:AK) (lit:Int):Bool:=Al x&&DX lit 0 (2*(A0 x:Int) - 1)
def Df (x:AK) (lit:Int):VI:=if Dm x lit=true then ((A0 x:Int),Ez x lit) else (0,[])
theorem K5 {s:List Bool} {y:Int} (h:y∈C4 s):0≤y∧y<s.length:=by
 unfold C4 CP at h;obtain⟨a,ha,hv⟩:=CF.1 h;have:=Gu.1 (Mb.1 ha).1;omega
theorem LB {s:List Bool}:(C4 s).length≤s.length:=by
 unfold C4 CP;rw[FB];exact Nat.le_trans (List.length_filter_le _ _) (by simp)
theorem aB {x:AK} {k:Int}:(Kf x k).length≤3:=by unfold Kf Lu;split<;>simp
theorem M4 {x:AK} {ks:List Int} {i:Nat} {k:Int} (h:ks[i]? = some k):DI x (ks.take (i+1))=DI x (ks.take i)++Kf x k:=by
 unfold DI;rw[Bb h,List.flatMap_append];simp
theorem F7 {x:AK}:∀ (ks:List Int),(DI x ks).length≤1+3*ks.length
 | []=>by simp[DI]
 | k::ks=>by
   have ih:=F7 (x:=x) ks;have:=aB (x:=x) (k:=k);simp only[DI,List.length_cons,List.flatMap_cons,EM] at ih ⊢;omega
theorem OB {x:AK} {lit:Int} (hok:Al x=true):(Ez x lit).length≤1203:=by
 obtain⟨-,hgl,-,-⟩:=A9 hok;have h1:=F7 (x:=x) (C4 (Dr x (lit.toNat / 2)));have h2:=LB (s:=Dr x (lit.toNat / 2));rw[Fq] at h2;unfold Ez;simp only[EM,List.length_cons,List.length_nil];omega
theorem MM {x:AK} {lit:Int}:∀ r∈Ez x lit,r.length≤3:=by
 intro r hr;unfold Ez DI at hr;rcases CO.1 hr with h|h
 · rcases List.mem_cons.1 h with rfl|h
   · simp
   · obtain⟨k,-,hk⟩:=List.mem_flatMap.1 h;unfold Kf at hk;split at hk
     · simp only[Lu,List.mem_cons,List.not_mem_nil,or_false] at hk;rcases hk with rfl|rfl|rfl<;>simp
     · simp at hk
 · rw[HE.1 h];simp
theorem Qg {x:AK} {lit:Int}:VN 1048576 (Df x lit):=by
 unfold Df;split
 · rename_i h;unfold Dm at h;simp only[Bool.and_eq_true] at h;exact⟨by have:=OB (lit:=lit) h.1;simp only;omega,fun r hr=>by have:=MM r hr;omega⟩
 · exact⟨by simp,by simp⟩
theorem Xn (x:AK) (lit:Int) (hx:CB 1048576 x):BA Tryz.prog 22 [GC x,.d (.int .i64 lit)] (.tup [dS (Df x lit),.d (.bool (Dm x lit))]):=by
 have kok:=JH x hx;have hB:Dm x lit=(Al x&&DX lit 0 (2*(A0 x:Int) - 1)):=rfl;have hC:Df x lit=if Dm x lit=true then ((A0 x:Int),Ez x lit) else (0,[]):=rfl;refine A6 (by kernel_rfl) Tryz.func22 rfl rfl rfl ?_;simp[Ao]
 cases hok:Al x with
 | false =>
   rw[hok] at kok hB;simp only[Bool.false_and] at hB;rw[hB,if_neg (by simp)] at hC;refine Ab (kok) ?_;simp[Ao,hB,hC,ED]
 | true =>
 obtain⟨⟨n1,n2,n3,n4,n5,n6⟩,-,-,-⟩:=AA hok;obtain⟨hF,hgl,hNi,hno⟩:=A9 hok;have hN:=Br x;rw[hok] at kok hB;simp only[Bool.true_and] at hB;have w1:IntKind.i64.wrap (2*(A0 x:Int))=2*(A0 x:Int):=Ad (by omega) (by omega);have w2:IntKind.i64.wrap (2*(A0 x:Int) - 1)=2*(A0 x:Int) - 1:=Ad (by omega) (by omega);refine Ab (kok) ?_;simp[Ao];refine Ab (Dp x ⟨n1,n2⟩ n3 n4) ?_;simp[Ao,hNi,w1,w2];refine Ab (Fo _ _ _) ?_;simp
 cases hr:DX lit 0 (2*(A0 x:Int) - 1) with
 | false =>
   rw[hr] at hB;rw[hB,if_neg (by simp)] at hC;simp[hr,hB,hC,ED]
 | true =>
 have hr2:=AP.1 hr;rw[hr] at hB;rw[hB,if_pos rfl] at hC;have w3:IntKind.i64.wrap (lit.tdiv 2)=((lit.toNat / 2:Nat):Int):=by rw[Int.tdiv_eq_ediv_of_nonneg hr2.1,Ad (by omega) (by omega)];omega
 have hv:lit.toNat / 2<A0 x:=by omega
 have hnc:Ez x lit=DI x (C4 (Dr x (lit.toNat / 2)))++[[A5 lit]]:=rfl;rw[hnc] at hC;generalize lit.toNat / 2=v at *;have hm:=fun y=>K5 (s:=Dr x v) (y:=y);have hml:=LB (s:=Dr x v);rw[Fq] at hm hml;simp[hr];refine Ab (Dp x ⟨n1,n2⟩ n3 n4) ?_;simp[Ao,hNi,w3];refine Ab (jE x v hx hok hv) ?_;simp[Ao];generalize C4 (Dr x v)=ks at *;refine AB [false,true,true,false,true,false,true,false,false,false,false,false,false,false,false,false,false,false,false,false,false,false,false,false,false,false,false,false,false,false,false,false,false,false,true,true,true] (fun i:Nat=>i≤ks.length) (fun i:Nat=>[(36,.d (.int .i64 i))]) (fun i:Nat=>[(3,.arr 26 true ((DI x (ks.take i)).map Az))]) (fun i:Nat=>ks.length - i) 0 ?_ ?_ ?_
 · exact Nat.zero_le _
 · exact⟨[0,1,2,3,4,5],by simp[DI,Az,e1,AC]⟩
 rintro I S μ hI hS hμ i hi;by_cases hlt:i<ks.length
 case neg =>
  obtain rfl:i=ks.length:=by omega
  rw[List.take_length];have hcl:=F7 (x:=x) ks;simp[BH hlt,hlt];refine⟨by kernel_rfl,?_⟩;refine Ab (Kp lit) ?_;simp
  first | refine Bt (q:=1) AM (by exact rfl) (by simp) (by exact rfl) (by exact rfl) (by simp) (by simp) (by first | (simp;done)|(simp;omega)) ?_|refine Bu AM (by exact rfl) (by simp) (by exact rfl) (by simp) (by first | (simp;done)|(simp;omega)) ?_
  simp;simp[hB,hC,ED,Az,e1,AC]
 have hx1:ks[i]? = some ks[i]:=A1 hlt;have hnx:=M4 (x:=x) hx1;have hcl:=F7 (x:=x) (ks.take i);have hk:=hm _ (Dv hlt);have w4:IntKind.i64.wrap ((i:Int)+1)=(i:Int)+1:=Ad (by omega) (by omega);have hco:Kf x ks[i]=if Aa x≤ks[i].toNat then Lu x ks[i].toNat else []:=rfl;have hi2:(ks.take i).length≤400:=by simp;omega
 generalize DI x (ks.take i)=cs at *;generalize Kf x ks[i]=co at *;generalize ks[i]=k at *;obtain⟨u,rfl⟩:∃ u:Nat,k=u:=⟨k.toNat,by omega⟩;rw[Int.toNat_natCast] at hco;by_cases hF1:Aa x≤u
 case neg =>
  rw[if_neg hF1] at hco;subst hco;simp[A8 hlt,hx1];refine Ab (SE x u ⟨n1,n2⟩ n3 n4) ?_;simp[Ao,hF1,w4];exact Ae hI hS hμ (i+1) (by omega) (by omega) ⟨[0,1,2,3,4,5],by simp[hnx]⟩
 rw[if_pos hF1] at hco;obtain⟨ha,a1,a2,a3,a4,a5,a6⟩:=C2 hok hF1 (by omega);have w5:IntKind.i64.wrap ((u:Int) - (1+x.1+x.2.1.length))=(u:Int) - (1+x.1+x.2.1.length):=Ad (by omega) (by omega);have ht:((u:Int) - (1+x.1+x.2.1.length)).toNat=u - Aa x:=by omega
 have hL:(At (Aj x u)).length=2:=rfl;have hn0:¬ (u:Int) - (1+x.1+x.2.1.length)<0:=by omega
 have hac:Lu x u=[[-((u:Int)+1),A5 (Aj x u).1],[-((u:Int)+1),A5 (Aj x u).2],[(u:Int)+1,-A5 (Aj x u).1,-A5 (Aj x u).2]]:=rfl;rw[hac] at hco;have lA:=Il (Aj x u).1;have lB:=Il (Aj x u).2;have kA:=Kp (Aj x u).1;have kB:=Kp (Aj x u).2;generalize A5 (Aj x u).1=va at *;generalize A5 (Aj x u).2=vb at *;obtain⟨g,hg⟩:∃ g,(u:Int)+1=g:=⟨_,rfl⟩;rw[hg] at hco;have w6:IntKind.i64.wrap ((u:Int)+1)=g:=by rw[←hg];exact Ad (by omega) (by omega)
 have w7:IntKind.i64.wrap (-g)=-g:=Ad (by omega) (by omega);have w8:IntKind.i64.wrap (-va)=-va:=Ad (by omega) (by omega);have w9:IntKind.i64.wrap (-vb)=-vb:=Ad (by omega) (by omega);have hun:u<A0 x:=Int.ofNat_lt.1 hk.2;subst hco;simp[A8 hlt,hx1];refine Ab (SE x u ⟨n1,n2⟩ n3 n4) ?_;simp[Ao,hF1,hun];refine⟨by kernel_rfl,?_⟩;refine Ab (BL x ⟨n1,n2⟩ n3) ?_;simp[w5,ht,ha,hL,hn0,At,Ao,w6];refine⟨by kernel_rfl,?_⟩;refine Ab (kA) ?_;simp;refine Ab (kB) ?_;simp[w7,w8,w9]
 first | refine Bt (q:=1) AM (by exact rfl) (by simp) (by exact rfl) (by exact rfl) (by simp) (by simp) (by first | (simp;done)|(simp;omega)) ?_|refine Bu AM (by exact rfl) (by simp) (by exact rfl) (by simp) (by first | (simp;done)|(simp;omega)) ?_
 simp[w4];exact Ae hI hS hμ (i+1) (by omega) (by omega) ⟨[0,1,2,11,4,5],by simp[hnx,Az,e1,AC]⟩
theorem Xt (x:AK) (lit:Int) (hx:CB 1048576 x) (hg:Kg x) (hlI:JW lit):BA Tryz.prog 17 [GC x,.d (.int .i64 lit)] (.tup [dS (Df x lit),.d (.bool (Dm x lit))]):=by
 have kok:=Cn x hx hg;have hB:Dm x lit=(Al x&&DX lit 0 (2*(A0 x:Int) - 1)):=rfl;have hC:Df x lit=if Dm x lit=true then ((A0 x:Int),Ez x lit) else (0,[]):=rfl;refine A6 (by kernel_rfl) Tryz.func17 rfl rfl rfl ?_;simp[Ao]
 cases hok:Al x with
 | false =>
   rw[hok] at kok hB;simp only[Bool.false_and] at hB;rw[hB,if_neg (by simp)] at hC;refine Ab (kok) ?_;simp[Ao,hB,hC,ED]
 | true =>
 obtain⟨⟨n1,n2,n3,n4,n5,n6⟩,-,-,-⟩:=AA hok;obtain⟨hF,hgl,hNi,hno⟩:=A9 hok;have hN:=Br x;rw[hok] at kok hB;simp only[Bool.true_and] at hB;have kn:=Bv x;rw[hno] at kn;refine Ab (kok) ?_;simp[Ao];refine Ab (kn) ?_;simp[Ao];refine Ab (H9 lit (A0 x) hlI (by omega)) ?_;simp
 cases hr:DX lit 0 (2*(A0 x:Int) - 1) with
 | false =>
   rw[hr] at hB;rw[hB,if_neg (by simp)] at hC;simp[hr,hB,hC,ED]
 | true =>
 have hr2:=AP.1 hr;rw[hr] at hB;rw[hB,if_pos rfl] at hC;have w3:IntKind.i64.wrap (lit.tdiv 2)=((lit.toNat / 2:Nat):Int):=by rw[Int.tdiv_eq_ediv_of_nonneg hr2.1,Ad (by omega) (by omega)];omega
 have hv:lit.toNat / 2<A0 x:=by omega
 have hnc:Ez x lit=DI x (C4 (Dr x (lit.toNat / 2)))++[[A5 lit]]:=rfl;rw[hnc] at hC;generalize lit.toNat / 2=v at *;have hm:=fun y=>K5 (s:=Dr x v) (y:=y);have hml:=LB (s:=Dr x v);rw[Fq] at hm hml;simp[hr];refine Ab (kn) ?_;simp[Ao,w3];refine Ab (Sj x v hx hg hok hv) ?_;simp[Ao];generalize C4 (Dr x v)=ks at *;refine AB [false,true,true,false,true,false,true,true,true] (fun i:Nat=>i≤ks.length) (fun i:Nat=>[(8,.d (.int .i64 i))]) (fun i:Nat=>[(3,.arr 26 true ((DI x (ks.take i)).map Az))]) (fun i:Nat=>ks.length - i) 0 ?_ ?_ ?_
 · exact Nat.zero_le _
 · exact⟨[0,1,2,3,4,5],by simp[DI,Az,e1,AC]⟩
 rintro I S μ hI hS hμ i hi;by_cases hlt:i<ks.length
 case neg =>
  obtain rfl:i=ks.length:=by omega
  rw[List.take_length];have hcl:=F7 (x:=x) ks;simp[BH hlt,hlt];refine⟨by kernel_rfl,?_⟩;refine Ab (Kz lit) ?_;simp
  first | refine Bt (q:=1) AM (by exact rfl) (by simp) (by exact rfl) (by exact rfl) (by simp) (by simp) (by first | (simp;done)|(simp;omega)) ?_|refine Bu AM (by exact rfl) (by simp) (by exact rfl) (by simp) (by first | (simp;done)|(simp;omega)) ?_
  simp;simp[hB,hC,ED,Az,e1,AC]
 have hx1:ks[i]? = some ks[i]:=A1 hlt;have hnx:=M4 (x:=x) hx1;have hcl:=F7 (x:=x) (ks.take i);have hk:=hm _ (Dv hlt);have w4:IntKind.i64.wrap ((i:Int)+1)=(i:Int)+1:=Ad (by omega) (by omega);have hco:Kf x ks[i]=if Aa x≤ks[i].toNat then Lu x ks[i].toNat else []:=rfl;have hi2:(ks.take i).length≤400:=by simp;omega
 generalize DI x (ks.take i)=cs at *;generalize Kf x ks[i]=co at *;generalize ks[i]=k at *;obtain⟨u,rfl⟩:∃ u:Nat,k=u:=⟨k.toNat,by omega⟩;rw[Int.toNat_natCast] at hco;by_cases hF1:Aa x≤u
 case neg =>
  rw[if_neg hF1] at hco;subst hco;simp[A8 hlt,hx1];refine⟨by kernel_rfl,?_⟩;refine Ab (BJ x ⟨n1,n2⟩ n3) ?_;simp[Ao,w4,show (u:Int)<1+x.1+x.2.1.length by omega];exact Ae hI hS hμ (i+1) (by omega) (by omega) ⟨[0,1,2,3,4,5],by simp[hnx]⟩
 rw[if_pos hF1] at hco;obtain⟨ha,a1,a2,a3,a4,a5,a6⟩:=C2 hok hF1 (by omega);have w5:IntKind.i64.wrap ((u:Int) - (1+x.1+x.2.1.length))=(u:Int) - (1+x.1+x.2.1.length):=Ad (by omega) (by omega);have ht:((u:Int) - (1+x.1+x.2.1.length)).toNat=u - Aa x:=by omega
 have hL:(At (Aj x u)).length=2:=rfl;have hn0:¬ (u:Int) - (1+x.1+x.2.1.length)<0:=by omega
 have hac:Lu x u=[[-((u:Int)+1),A5 (Aj x u).1],[-((u:Int)+1),A5 (Aj x u).2],[(u:Int)+1,-A5 (Aj x u).1,-A5 (Aj x u).2]]:=rfl;rw[hac] at hco;have lA:=Il (Aj x u).1;have lB:=Il (Aj x u).2;have kA:=Kz (Aj x u).1;have kB:=Kz (Aj x u).2;generalize A5 (Aj x u).1=va at *;generalize A5 (Aj x u).2=vb at *;obtain⟨g,hg⟩:∃ g,(u:Int)+1=g:=⟨_,rfl⟩;rw[hg] at hco;have w6:IntKind.i64.wrap ((u:Int)+1)=g:=by rw[←hg];exact Ad (by omega) (by omega)
 have w7:IntKind.i64.wrap (-g)=-g:=Ad (by omega) (by omega);have w8:IntKind.i64.wrap (-va)=-va:=Ad (by omega) (by omega);have w9:IntKind.i64.wrap (-vb)=-vb:=Ad (by omega) (by omega);have hun:u<A0 x:=Int.ofNat_lt.1 hk.2;subst hco;simp[A8 hlt,hx1];refine⟨by kernel_rfl,?_⟩;refine Ab (BJ x ⟨n1,n2⟩ n3) ?_;simp[Ao,hx1,show ¬ (u:Int)<1+x.1+x.2.1.length by omega];refine⟨by kernel_rfl,?_⟩;refine Ab (BJ x ⟨n1,n2⟩ n3) ?_;simp[w5,ht,ha,hL,hn0,At,Ao,w6,hx1];refine Ab (kA) ?_;simp;refine Ab (kB) ?_;simp[w7,w8,w9]
 first | refine Bt (q:=1) AM (by exact rfl) (by simp) (by exact rfl) (by exact rfl) (by simp) (by simp) (by first | (simp;done)|(simp;omega)) ?_|refine Bu AM (by exact rfl) (by simp) (by exact rfl) (by simp) (by first | (simp;done)|(simp;omega)) ?_
 simp[w4];exact Ae hI hS hμ (i+1) (by omega) (by omega) ⟨[0,1,2,11,4,5],by simp[hnx,Az,e1,AC]⟩
end Go.Proofs.YtnjedabjbeipeaaGreat
