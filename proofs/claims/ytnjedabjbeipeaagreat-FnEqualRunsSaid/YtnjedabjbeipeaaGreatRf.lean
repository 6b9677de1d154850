/-
  The formula of a net, by abstract walks: both sides.
  Conditions: those typed in each theorem.
-/
import Derived.Test.YtnjedabjbeipeaaGreatNo
namespace Go.Proofs.YtnjedabjbeipeaaGreat
open Go.RowKit Go.ChangeShapes Go.WideShapes
set_option linter.unusedSimpArgs false
set_option linter.unusedVariables false
set_option maxRecDepth 100000
set_option maxHeartbeats 10000000
def A5 (l:Int):Int:=if DX l 0 800=true then (if l % 2=1 then -(l / 2+1) else l / 2+1) else 0
theorem In (l:Int):-401≤A5 l∧A5 l≤401:=by
 unfold A5;split
 · rename_i h;have:=AP.1 h;split<;>omega
 · omega
theorem KP (l:Int):BA Tryz.prog 59 [.d (.int .i64 l)] (.d (.int .i64 (A5 l))):=by
 refine A6 (by kernel_rfl) Tryz.func59 rfl rfl rfl ?_;simp;refine Ab (Fl _ _ _) ?_;simp;rcases Ep (DX l 0 800) with h|h
 · have hr:=AP.1 h;have w1:l.tmod 2=l % 2:=Int.tmod_eq_emod_of_nonneg hr.1;have w2:IntKind.i64.wrap (l.tdiv 2)=l / 2:=by rw[Int.tdiv_eq_ediv_of_nonneg hr.1,Ad (by omega) (by omega)]
   have w3:IntKind.i64.wrap (l / 2+1)=l / 2+1:=Ad (by omega) (by omega);have w4:IntKind.i64.wrap (-(l / 2+1))=-(l / 2+1):=Ad (by omega) (by omega);by_cases h1:l % 2=1
   · have hl:A5 l=-(l / 2+1):=by unfold A5;rw[if_pos h,if_pos h1]
     simp[h,w1,w2,w3,w4,h1,hl]
   · have hl:A5 l=l / 2+1:=by unfold A5;rw[if_pos h,if_neg h1]
     simp[h,w1,w2,w3,w4,h1,hl,show (l % 2==1)=false by simpa using h1]
 · have hl:A5 l=0:=by unfold A5;rw[if_neg (by simp[h])]
   simp[h,hl]
theorem Kj (l:Int):BA Tryz.prog 43 [.d (.int .i64 l)] (.d (.int .i64 (A5 l))):=by
 refine A6 (by kernel_rfl) Tryz.func43 rfl rfl rfl ?_;by_cases hn:l<0
 · have hl:A5 l=0:=by unfold A5;rw[if_neg (fun h=>by have:=AP.1 h;omega)]
   simp[A8 hn,hn,hl]
 by_cases hm:800<l
 · have hl:A5 l=0:=by unfold A5;rw[if_neg (fun h=>by have:=AP.1 h;omega)]
   simp[BH hn,hn,A8 hm,hm,hl]
 have h:DX l 0 800=true:=AP.2 (by omega);have w1:l.tmod 2=l % 2:=Int.tmod_eq_emod_of_nonneg (by omega);have w2:IntKind.i64.wrap (l.tdiv 2)=l / 2:=by rw[Int.tdiv_eq_ediv_of_nonneg (by omega),Ad (by omega) (by omega)]
 have w3:IntKind.i64.wrap (l / 2+1)=l / 2+1:=Ad (by omega) (by omega);have w4:IntKind.i64.wrap (-(l / 2+1))=-(l / 2+1):=Ad (by omega) (by omega);by_cases h1:l % 2=1
 · have hl:A5 l=-(l / 2+1):=by unfold A5;rw[if_pos h,if_pos h1]
   simp[BH hn,hn,BH hm,hm,w1,w2,w3,w4,h1,hl]
 · have hl:A5 l=l / 2+1:=by unfold A5;rw[if_pos h,if_neg h1]
   simp[BH hn,hn,BH hm,hm,w1,w2,w3,w4,h1,hl,show (l % 2==1)=false by simpa using h1]
def Lm (x:AK) (v:Nat):List BW :=
 [[-((v:Int)+1),A5 (Aj x v).1],[-((v:Int)+1),A5 (Aj x v).2],[(v:Int)+1,-A5 (Aj x v).1,-A5 (Aj x v).2]]
def KJ (x:AK) (k:Int):List BW:=if Aa x≤k.toNat then Lm x k.toNat else []
def DH (x:AK) (ks:List Int):List BW:=[-1]::ks.flatMap (KJ x)
def EA (x:AK) (lit:Int):List BW:=DH x (C2 (Du x (lit.toNat / 2)))++[[A5 lit]]
def Dm (x:AK) (lit:Int):Bool:=Al x&&DX lit 0 (2*(A0 x:Int) - 1)
def Df (x:AK) (lit:Int):WO:=if Dm x lit=true then ((A0 x:Int),EA x lit) else (0,[])
theorem K2 {s:List Bool} {y:Int} (h:y∈C2 s):0≤y∧y<s.length:=by
 unfold C2 CU at h;obtain⟨a,ha,hv⟩:=CE.1 h;have:=Gq.1 (Mb.1 ha).1;omega
theorem LO {s:List Bool}:(C2 s).length≤s.length:=by
 unfold C2 CU;rw[Fy];exact Nat.le_trans (List.length_filter_le _ _) (by simp)
theorem bX {x:AK} {k:Int}:(KJ x k).length≤3:=by unfold KJ Lm;split<;>simp
theorem Mp {x:AK} {ks:List Int} {i:Nat} {k:Int} (h:ks[i]? = some k):DH x (ks.take (i+1))=DH x (ks.take i)++KJ x k:=by
 unfold DH;rw[Bb h,List.flatMap_append];simp
theorem FS {x:AK}:∀ (ks:List Int),(DH x ks).length≤1+3*ks.length
 | []=>by simp[DH]
 | k::ks=>by
   have ih:=FS (x:=x) ks;have:=bX (x:=x) (k:=k);simp only[DH,List.length_cons,List.flatMap_cons,EM] at ih ⊢;omega
theorem Oz {x:AK} {lit:Int} (hok:Al x=true):(EA x lit).length≤1203:=by
 obtain⟨-,hgl,-,-⟩:=A9 hok;have h1:=FS (x:=x) (C2 (Du x (lit.toNat / 2)));have h2:=LO (s:=Du x (lit.toNat / 2));rw[Fm] at h2;unfold EA;simp only[EM,List.length_cons,List.length_nil];omega
theorem Ma {x:AK} {lit:Int}:∀ r∈EA x lit,r.length≤3:=by
 intro r hr;unfold EA DH at hr;rcases CO.1 hr with h|h
 · rcases List.mem_cons.1 h with rfl|h
   · simp
   · obtain⟨k,-,hk⟩:=List.mem_flatMap.1 h;unfold KJ at hk;split at hk
     · simp only[Lm,List.mem_cons,List.not_mem_nil,or_false] at hk;rcases hk with rfl|rfl|rfl<;>simp
     · simp at hk
 · rw[Hz.1 h];simp
theorem PV {x:AK} {lit:Int}:U1 1048576 (Df x lit):=by
 unfold Df;split
 · rename_i h;unfold Dm at h;simp only[Bool.and_eq_true] at h;exact⟨by have:=Oz (lit:=lit) h.1;simp only;omega,fun r hr=>by have:=Ma r hr;omega⟩
 · exact⟨by simp,by simp⟩
theorem Wl (x:AK) (lit:Int) (hx:CF 1048576 x):BA Tryz.prog 22 [GD x,.d (.int .i64 lit)] (.tup [cC (Df x lit),.d (.bool (Dm x lit))]):=by
 have kok:=Jt x hx;have hB:Dm x lit=(Al x&&DX lit 0 (2*(A0 x:Int) - 1)):=rfl;have hC:Df x lit=if Dm x lit=true then ((A0 x:Int),EA x lit) else (0,[]):=rfl;refine A6 (by kernel_rfl) Tryz.func22 rfl rfl rfl ?_;simp[Ao]
 cases hok:Al x with
 | false =>
   rw[hok] at kok hB;simp only[Bool.false_and] at hB;rw[hB,if_neg (by simp)] at hC;refine Ab (kok) ?_;simp[Ao,hB,hC,EE]
 | true =>
 obtain⟨⟨n1,n2,n3,n4,n5,n6⟩,-,-,-⟩:=AA hok;obtain⟨hF,hgl,hNi,hno⟩:=A9 hok;have hN:=Br x;rw[hok] at kok hB;simp only[Bool.true_and] at hB;have w1:IntKind.i64.wrap (2*(A0 x:Int))=2*(A0 x:Int):=Ad (by omega) (by omega);have w2:IntKind.i64.wrap (2*(A0 x:Int) - 1)=2*(A0 x:Int) - 1:=Ad (by omega) (by omega);refine Ab (kok) ?_;simp[Ao];refine Ab (Do x ⟨n1,n2⟩ n3 n4) ?_;simp[Ao,hNi,w1,w2];refine Ab (Fl _ _ _) ?_;simp
 cases hr:DX lit 0 (2*(A0 x:Int) - 1) with
 | false =>
   rw[hr] at hB;rw[hB,if_neg (by simp)] at hC;simp[hr,hB,hC,EE]
 | true =>
 have hr2:=AP.1 hr;rw[hr] at hB;rw[hB,if_pos rfl] at hC;have w3:IntKind.i64.wrap (lit.tdiv 2)=((lit.toNat / 2:Nat):Int):=by rw[Int.tdiv_eq_ediv_of_nonneg hr2.1,Ad (by omega) (by omega)];omega
 have hv:lit.toNat / 2<A0 x:=by omega
 have hnc:EA x lit=DH x (C2 (Du x (lit.toNat / 2)))++[[A5 lit]]:=rfl;rw[hnc] at hC;generalize lit.toNat / 2=v at *;have hm:=fun y=>K2 (s:=Du x v) (y:=y);have hml:=LO (s:=Du x v);rw[Fm] at hm hml;simp[hr];refine Ab (Do x ⟨n1,n2⟩ n3 n4) ?_;simp[Ao,hNi,w3];refine Ab (fG x v hx hok hv) ?_;simp[Ao];generalize C2 (Du x v)=ks at *;refine AB [false,true,true,false,true,false,true,false,false,false,false,false,false,false,false,false,false,false,false,false,false,false,false,false,false,false,false,false,false,false,false,false,false,false,true,true,true] (fun i:Nat=>i≤ks.length) (fun i:Nat=>[(36,.d (.int .i64 i))]) (fun i:Nat=>[(3,.arr 26 true ((DH x (ks.take i)).map Az))]) (fun i:Nat=>ks.length - i) 0 ?_ ?_ ?_
 · exact Nat.zero_le _
 · exact⟨[0,1,2,3,4,5],by simp[DH,Az,e1,AC]⟩
 rintro I S μ hI hS hμ i hi;by_cases hlt:i<ks.length
 case neg =>
  obtain rfl:i=ks.length:=by omega
  rw[List.take_length];have hcl:=FS (x:=x) ks;simp[BH hlt,hlt];refine⟨by kernel_rfl,?_⟩;refine Ab (KP lit) ?_;simp
  first | refine Bu (q:=1) AM (by exact rfl) (by simp) (by exact rfl) (by exact rfl) (by simp) (by simp) (by first | (simp;done)|(simp;omega)) ?_|refine Bt AM (by exact rfl) (by simp) (by exact rfl) (by simp) (by first | (simp;done)|(simp;omega)) ?_
  simp;simp[hB,hC,EE,Az,e1,AC]
 have hx1:ks[i]? = some ks[i]:=A1 hlt;have hnx:=Mp (x:=x) hx1;have hcl:=FS (x:=x) (ks.take i);have hk:=hm _ (Dv hlt);have w4:IntKind.i64.wrap ((i:Int)+1)=(i:Int)+1:=Ad (by omega) (by omega);have hco:KJ x ks[i]=if Aa x≤ks[i].toNat then Lm x ks[i].toNat else []:=rfl;have hi2:(ks.take i).length≤400:=by simp;omega
 generalize DH x (ks.take i)=cs at *;generalize KJ x ks[i]=co at *;generalize ks[i]=k at *;obtain⟨u,rfl⟩:∃ u:Nat,k=u:=⟨k.toNat,by omega⟩;rw[Int.toNat_natCast] at hco;by_cases hF1:Aa x≤u
 case neg =>
  rw[if_neg hF1] at hco;subst hco;simp[A8 hlt,hx1];refine Ab (Sk x u ⟨n1,n2⟩ n3 n4) ?_;simp[Ao,hF1,w4];exact Ae hI hS hμ (i+1) (by omega) (by omega) ⟨[0,1,2,3,4,5],by simp[hnx]⟩
 rw[if_pos hF1] at hco;obtain⟨ha,a1,a2,a3,a4,a5,a6⟩:=C3 hok hF1 (by omega);have w5:IntKind.i64.wrap ((u:Int) - (1+x.1+x.2.1.length))=(u:Int) - (1+x.1+x.2.1.length):=Ad (by omega) (by omega);have ht:((u:Int) - (1+x.1+x.2.1.length)).toNat=u - Aa x:=by omega
 have hL:(At (Aj x u)).length=2:=rfl;have hn0:¬ (u:Int) - (1+x.1+x.2.1.length)<0:=by omega
 have hac:Lm x u=[[-((u:Int)+1),A5 (Aj x u).1],[-((u:Int)+1),A5 (Aj x u).2],[(u:Int)+1,-A5 (Aj x u).1,-A5 (Aj x u).2]]:=rfl;rw[hac] at hco;have lA:=In (Aj x u).1;have lB:=In (Aj x u).2;have kA:=KP (Aj x u).1;have kB:=KP (Aj x u).2;generalize A5 (Aj x u).1=va at *;generalize A5 (Aj x u).2=vb at *;obtain⟨g,hg⟩:∃ g,(u:Int)+1=g:=⟨_,rfl⟩;rw[hg] at hco;have w6:IntKind.i64.wrap ((u:Int)+1)=g:=by rw[←hg];exact Ad (by omega) (by omega)
 have w7:IntKind.i64.wrap (-g)=-g:=Ad (by omega) (by omega);have w8:IntKind.i64.wrap (-va)=-va:=Ad (by omega) (by omega);have w9:IntKind.i64.wrap (-vb)=-vb:=Ad (by omega) (by omega);have hun:u<A0 x:=Int.ofNat_lt.1 hk.2;subst hco;simp[A8 hlt,hx1];refine Ab (Sk x u ⟨n1,n2⟩ n3 n4) ?_;simp[Ao,hF1,hun];refine⟨by kernel_rfl,?_⟩;refine Ab (BL x ⟨n1,n2⟩ n3) ?_;simp[w5,ht,ha,hL,hn0,At,Ao,w6];refine⟨by kernel_rfl,?_⟩;refine Ab (kA) ?_;simp;refine Ab (kB) ?_;simp[w7,w8,w9]
 first | refine Bu (q:=1) AM (by exact rfl) (by simp) (by exact rfl) (by exact rfl) (by simp) (by simp) (by first | (simp;done)|(simp;omega)) ?_|refine Bt AM (by exact rfl) (by simp) (by exact rfl) (by simp) (by first | (simp;done)|(simp;omega)) ?_
 simp[w4];exact Ae hI hS hμ (i+1) (by omega) (by omega) ⟨[0,1,2,11,4,5],by simp[hnx,Az,e1,AC]⟩
theorem WL (x:AK) (lit:Int) (hx:CF 1048576 x) (hg:Kz x) (hlI:J0 lit):BA Tryz.prog 17 [GD x,.d (.int .i64 lit)] (.tup [cC (Df x lit),.d (.bool (Dm x lit))]):=by
 have kok:=Cr x hx hg;have hB:Dm x lit=(Al x&&DX lit 0 (2*(A0 x:Int) - 1)):=rfl;have hC:Df x lit=if Dm x lit=true then ((A0 x:Int),EA x lit) else (0,[]):=rfl;refine A6 (by kernel_rfl) Tryz.func17 rfl rfl rfl ?_;simp[Ao]
 cases hok:Al x with
 | false =>
   rw[hok] at kok hB;simp only[Bool.false_and] at hB;rw[hB,if_neg (by simp)] at hC;refine Ab (kok) ?_;simp[Ao,hB,hC,EE]
 | true =>
 obtain⟨⟨n1,n2,n3,n4,n5,n6⟩,-,-,-⟩:=AA hok;obtain⟨hF,hgl,hNi,hno⟩:=A9 hok;have hN:=Br x;rw[hok] at kok hB;simp only[Bool.true_and] at hB;have kn:=Bw x;rw[hno] at kn;refine Ab (kok) ?_;simp[Ao];refine Ab (kn) ?_;simp[Ao];refine Ab (H7 lit (A0 x) hlI (by omega)) ?_;simp
 cases hr:DX lit 0 (2*(A0 x:Int) - 1) with
 | false =>
   rw[hr] at hB;rw[hB,if_neg (by simp)] at hC;simp[hr,hB,hC,EE]
 | true =>
 have hr2:=AP.1 hr;rw[hr] at hB;rw[hB,if_pos rfl] at hC;have w3:IntKind.i64.wrap (lit.tdiv 2)=((lit.toNat / 2:Nat):Int):=by rw[Int.tdiv_eq_ediv_of_nonneg hr2.1,Ad (by omega) (by omega)];omega
 have hv:lit.toNat / 2<A0 x:=by omega
 have hnc:EA x lit=DH x (C2 (Du x (lit.toNat / 2)))++[[A5 lit]]:=rfl;rw[hnc] at hC;generalize lit.toNat / 2=v at *;have hm:=fun y=>K2 (s:=Du x v) (y:=y);have hml:=LO (s:=Du x v);rw[Fm] at hm hml;simp[hr];refine Ab (kn) ?_;simp[Ao,w3];refine Ab (Ts x v hx hg hok hv) ?_;simp[Ao];generalize C2 (Du x v)=ks at *;refine AB [false,true,true,false,true,false,true,true,true] (fun i:Nat=>i≤ks.length) (fun i:Nat=>[(8,.d (.int .i64 i))]) (fun i:Nat=>[(3,.arr 26 true ((DH x (ks.take i)).map Az))]) (fun i:Nat=>ks.length - i) 0 ?_ ?_ ?_
 · exact Nat.zero_le _
 · exact⟨[0,1,2,3,4,5],by simp[DH,Az,e1,AC]⟩
 rintro I S μ hI hS hμ i hi;by_cases hlt:i<ks.length
 case neg =>
  obtain rfl:i=ks.length:=by omega
  rw[List.take_length];have hcl:=FS (x:=x) ks;simp[BH hlt,hlt];refine⟨by kernel_rfl,?_⟩;refine Ab (Kj lit) ?_;simp
  first | refine Bu (q:=1) AM (by exact rfl) (by simp) (by exact rfl) (by exact rfl) (by simp) (by simp) (by first | (simp;done)|(simp;omega)) ?_|refine Bt AM (by exact rfl) (by simp) (by exact rfl) (by simp) (by first | (simp;done)|(simp;omega)) ?_
  simp;simp[hB,hC,EE,Az,e1,AC]
 have hx1:ks[i]? = some ks[i]:=A1 hlt;have hnx:=Mp (x:=x) hx1;have hcl:=FS (x:=x) (ks.take i);have hk:=hm _ (Dv hlt);have w4:IntKind.i64.wrap ((i:Int)+1)=(i:Int)+1:=Ad (by omega) (by omega);have hco:KJ x ks[i]=if Aa x≤ks[i].toNat then Lm x ks[i].toNat else []:=rfl;have hi2:(ks.take i).length≤400:=by simp;omega
 generalize DH x (ks.take i)=cs at *;generalize KJ x ks[i]=co at *;generalize ks[i]=k at *;obtain⟨u,rfl⟩:∃ u:Nat,k=u:=⟨k.toNat,by omega⟩;rw[Int.toNat_natCast] at hco;by_cases hF1:Aa x≤u
 case neg =>
  rw[if_neg hF1] at hco;subst hco;simp[A8 hlt,hx1];refine⟨by kernel_rfl,?_⟩;refine Ab (BJ x ⟨n1,n2⟩ n3) ?_;simp[Ao,w4,show (u:Int)<1+x.1+x.2.1.length by omega];exact Ae hI hS hμ (i+1) (by omega) (by omega) ⟨[0,1,2,3,4,5],by simp[hnx]⟩
 rw[if_pos hF1] at hco;obtain⟨ha,a1,a2,a3,a4,a5,a6⟩:=C3 hok hF1 (by omega);have w5:IntKind.i64.wrap ((u:Int) - (1+x.1+x.2.1.length))=(u:Int) - (1+x.1+x.2.1.length):=Ad (by omega) (by omega);have ht:((u:Int) - (1+x.1+x.2.1.length)).toNat=u - Aa x:=by omega
 have hL:(At (Aj x u)).length=2:=rfl;have hn0:¬ (u:Int) - (1+x.1+x.2.1.length)<0:=by omega
 have hac:Lm x u=[[-((u:Int)+1),A5 (Aj x u).1],[-((u:Int)+1),A5 (Aj x u).2],[(u:Int)+1,-A5 (Aj x u).1,-A5 (Aj x u).2]]:=rfl;rw[hac] at hco;have lA:=In (Aj x u).1;have lB:=In (Aj x u).2;have kA:=Kj (Aj x u).1;have kB:=Kj (Aj x u).2;generalize A5 (Aj x u).1=va at *;generalize A5 (Aj x u).2=vb at *;obtain⟨g,hg⟩:∃ g,(u:Int)+1=g:=⟨_,rfl⟩;rw[hg] at hco;have w6:IntKind.i64.wrap ((u:Int)+1)=g:=by rw[←hg];exact Ad (by omega) (by omega)
 have w7:IntKind.i64.wrap (-g)=-g:=Ad (by omega) (by omega);have w8:IntKind.i64.wrap (-va)=-va:=Ad (by omega) (by omega);have w9:IntKind.i64.wrap (-vb)=-vb:=Ad (by omega) (by omega);have hun:u<A0 x:=Int.ofNat_lt.1 hk.2;subst hco;simp[A8 hlt,hx1];refine⟨by kernel_rfl,?_⟩;refine Ab (BJ x ⟨n1,n2⟩ n3) ?_;simp[Ao,hx1,show ¬ (u:Int)<1+x.1+x.2.1.length by omega];refine⟨by kernel_rfl,?_⟩;refine Ab (BJ x ⟨n1,n2⟩ n3) ?_;simp[w5,ht,ha,hL,hn0,At,Ao,w6,hx1];refine Ab (kA) ?_;simp;refine Ab (kB) ?_;simp[w7,w8,w9]
 first | refine Bu (q:=1) AM (by exact rfl) (by simp) (by exact rfl) (by exact rfl) (by simp) (by simp) (by first | (simp;done)|(simp;omega)) ?_|refine Bt AM (by exact rfl) (by simp) (by exact rfl) (by simp) (by first | (simp;done)|(simp;omega)) ?_
 simp[w4];exact Ae hI hS hμ (i+1) (by omega) (by omega) ⟨[0,1,2,11,4,5],by simp[hnx,Az,e1,AC]⟩
end Go.Proofs.YtnjedabjbeipeaaGreat
