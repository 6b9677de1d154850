/-
  The formula of a net, by abstract walks: both sides.
  Conditions: those typed in each theorem.
-/
import Derived.Test.YtnjedabjbeipeaaGreatNo
namespace Go.Proofs.YtnjedabjbeipeaaGreat
open Go.RowKit Go.ChangeShapes Go.WideShapes
set_option linter.unusedSimpArgs false
set_option linter.unusedVariables false
set_option maxRecDepth 100000
set_option maxHeartbeats 10000000
def A4 (l:Int):Int:=if DM l 0 800=true then (if l % 2=1 then -(l / 2+1) else l / 2+1) else 0
theorem H2 (l:Int):-401≤A4 l∧A4 l≤401:=by
 unfold A4;split
 · rename_i h;have:=AP.1 h;split<;>omega
 · omega
theorem JR (l:Int):Bx Tryz.prog 59 [.d (.int .i64 l)] (.d (.int .i64 (A4 l))):=by
 refine A5 (by kernel_rfl) Tryz.func59 rfl rfl rfl ?_;simp;refine Ab (E8 _ _ _) ?_;simp;rcases ABu (DM l 0 800) with h|h
 · have hr:=AP.1 h;have w1:l.tmod 2=l % 2:=Int.tmod_eq_emod_of_nonneg hr.1;have w2:IntKind.i64.wrap (l.tdiv 2)=l / 2:=by rw[Int.tdiv_eq_ediv_of_nonneg hr.1,Ad (by omega) (by omega)]
   have w3:IntKind.i64.wrap (l / 2+1)=l / 2+1:=Ad (by omega) (by omega);have w4:IntKind.i64.wrap (-(l / 2+1))=-(l / 2+1):=Ad (by omega) (by omega);by_cases h1:l % 2=1
   · have hl:A4 l=-(l / 2+1):=by unfold A4;rw[if_pos h,if_pos h1]
     simp[h,w1,w2,w3,w4,h1,hl]
   · have hl:A4 l=l / 2+1:=by unfold A4;rw[if_pos h,if_neg h1]
     simp[h,w1,w2,w3,w4,h1,hl,show (l % 2==1)=false by simpa using h1]
 · have hl:A4 l=0:=by unfold A4;rw[if_neg (by simp[h])]
   simp[h,hl]
theorem JM (l:Int):Bx Tryz.prog 43 [.d (.int .i64 l)] (.d (.int .i64 (A4 l))):=by
 refine A5 (by kernel_rfl) Tryz.func43 rfl rfl rfl ?_;by_cases hn:l<0
 · have hl:A4 l=0:=by unfold A4;rw[if_neg (fun h=>by have:=AP.1 h;omega)]
   simp[zz2 hn,hn,hl]
 by_cases hm:800<l
 · have hl:A4 l=0:=by unfold A4;rw[if_neg (fun h=>by have:=AP.1 h;omega)]
   simp[zz3 hn,hn,zz2 hm,hm,hl]
 have h:DM l 0 800=true:=AP.2 (by omega);have w1:l.tmod 2=l % 2:=Int.tmod_eq_emod_of_nonneg (by omega);have w2:IntKind.i64.wrap (l.tdiv 2)=l / 2:=by rw[Int.tdiv_eq_ediv_of_nonneg (by omega),Ad (by omega) (by omega)]
 have w3:IntKind.i64.wrap (l / 2+1)=l / 2+1:=Ad (by omega) (by omega);have w4:IntKind.i64.wrap (-(l / 2+1))=-(l / 2+1):=Ad (by omega) (by omega);by_cases h1:l % 2=1
 · have hl:A4 l=-(l / 2+1):=by unfold A4;rw[if_pos h,if_pos h1]
   simp[zz3 hn,hn,zz3 hm,hm,w1,w2,w3,w4,h1,hl]
 · have hl:A4 l=l / 2+1:=by unfold A4;rw[if_pos h,if_neg h1]
   simp[zz3 hn,hn,zz3 hm,hm,w1,w2,w3,w4,h1,hl,show (l % 2==1)=false by simpa using h1]
def K6 (x:AK) (v:Nat):List BT :=
 [[-((v:Int)+1),A4 (Aj x v).1],[-((v:Int)+1),A4 (Aj x v).2],[(v:Int)+1,-A4 (Aj x v).1,-A4 (Aj x v).2]]
def Kg (x:AK) (k:Int):List BT:=if Aa x≤k.toNat then K6 x k.toNat else []
def Dx (x:AK) (ks:List Int):List BT:=[-1]::ks.flatMap (Kg x)
def Ej (x:AK) (lit:Int):List BT:=Dx x (CV (Di x (lit.toNat / 2)))++[[A4 lit]]
def Db (x:AK) (lit:Int):Bool:=Al x&&DM lit 0 (2*(A0 x:Int) - 1)
def C5 (x:AK) (lit:Int):UY:=if Db x lit=true then ((A0 x:Int),Ej x lit) else (0,[])
theorem Kx {s:List Bool} {y:Int} (h:y∈CV s):0≤y∧y<s.length:=by
 unfold CV CM at h;obtain⟨a,ha,hv⟩:=ABc.1 h;have:=ABw.1 (ABx.1 ha).1;omega
theorem Li {s:List Bool}:(CV s).length≤s.length:=by
 unfold CV CM;rw[AB7];exact Nat.le_trans (List.length_filter_le _ _) (by simp)
theorem cK {x:AK} {k:Int}:(Kg x k).length≤3:=by unfold Kg K6;split<;>simp
theorem LI {x:AK} {ks:List Int} {i:Nat} {k:Int} (h:ks[i]? = some k):Dx x (ks.take (i+1))=Dx x (ks.take i)++Kg x k:=by
 unfold Dx;rw[Ba h,List.flatMap_append];simp
theorem FG {x:AK}:∀ (ks:List Int),(Dx x ks).length≤1+3*ks.length
 | []=>by simp[Dx]
 | k::ks=>by
   have ih:=FG (x:=x) ks;have:=cK (x:=x) (k:=k);simp only[Dx,List.length_cons,List.flatMap_cons,AB0] at ih ⊢;omega
theorem N4 {x:AK} {lit:Int} (hok:Al x=true):(Ej x lit).length≤1203:=by
 obtain⟨-,hgl,-,-⟩:=A7 hok;have h1:=FG (x:=x) (CV (Di x (lit.toNat / 2)));have h2:=Li (s:=Di x (lit.toNat / 2));rw[E3] at h2;unfold Ej;simp only[AB0,List.length_cons,List.length_nil];omega
theorem Mb {x:AK} {lit:Int}:∀ r∈Ej x lit,r.length≤3:=by
 intro r hr;unfold Ej Dx at hr;rcases ACB.1 hr with h|h
 · rcases List.mem_cons.1 h with rfl|h
   · simp
   · obtain⟨k,-,hk⟩:=List.mem_flatMap.1 h;unfold Kg at hk;split at hk
     · simp only[K6,List.mem_cons,List.not_mem_nil,or_false] at hk;rcases hk with rfl|rfl|rfl<;>simp
     · simp at hk
 · rw[zz9.1 h];simp
theorem QA {x:AK} {lit:Int}:VE 1048576 (C5 x lit):=by
 unfold C5;split
 · rename_i h;unfold Db at h;simp only[Bool.and_eq_true] at h;exact⟨by have:=N4 (lit:=lit) h.1;simp only;omega,fun r hr=>by have:=Mb r hr;omega⟩
 · exact⟨by simp,by simp⟩
theorem Wc (x:AK) (lit:Int) (hx:Cz 1048576 x):Bx Tryz.prog 22 [Ge x,.d (.int .i64 lit)] (.tup [aU (C5 x lit),.d (.bool (Db x lit))]):=by
 have kok:=IK x hx;have hB:Db x lit=(Al x&&DM lit 0 (2*(A0 x:Int) - 1)):=rfl;have hC:C5 x lit=if Db x lit=true then ((A0 x:Int),Ej x lit) else (0,[]):=rfl;refine A5 (by kernel_rfl) Tryz.func22 rfl rfl rfl ?_;simp[Ao]
 cases hok:Al x with
 | false =>
   rw[hok] at kok hB;simp only[Bool.false_and] at hB;rw[hB,if_neg (by simp)] at hC;refine Ab (kok) ?_;simp[Ao,hB,hC,Eo]
 | true =>
 obtain⟨⟨n1,n2,n3,n4,n5,n6⟩,-,-,-⟩:=AA hok;obtain⟨hF,hgl,hNi,hno⟩:=A7 hok;have hN:=Bp x;rw[hok] at kok hB;simp only[Bool.true_and] at hB;have w1:IntKind.i64.wrap (2*(A0 x:Int))=2*(A0 x:Int):=Ad (by omega) (by omega);have w2:IntKind.i64.wrap (2*(A0 x:Int) - 1)=2*(A0 x:Int) - 1:=Ad (by omega) (by omega);refine Ab (kok) ?_;simp[Ao];refine Ab (Df x ⟨n1,n2⟩ n3 n4) ?_;simp[Ao,hNi,w1,w2];refine Ab (E8 _ _ _) ?_;simp
 cases hr:DM lit 0 (2*(A0 x:Int) - 1) with
 | false =>
   rw[hr] at hB;rw[hB,if_neg (by simp)] at hC;simp[hr,hB,hC,Eo]
 | true =>
 have hr2:=AP.1 hr;rw[hr] at hB;rw[hB,if_pos rfl] at hC;have w3:IntKind.i64.wrap (lit.tdiv 2)=((lit.toNat / 2:Nat):Int):=by rw[Int.tdiv_eq_ediv_of_nonneg hr2.1,Ad (by omega) (by omega)];omega
 have hv:lit.toNat / 2<A0 x:=by omega
 have hnc:Ej x lit=Dx x (CV (Di x (lit.toNat / 2)))++[[A4 lit]]:=rfl;rw[hnc] at hC;generalize lit.toNat / 2=v at *;have hm:=fun y=>Kx (s:=Di x v) (y:=y);have hml:=Li (s:=Di x v);rw[E3] at hm hml;simp[hr];refine Ab (Df x ⟨n1,n2⟩ n3 n4) ?_;simp[Ao,hNi,w3];refine Ab (gN x v hx hok hv) ?_;simp[Ao];generalize CV (Di x v)=ks at *;refine AB [false,true,true,false,true,false,true,false,false,false,false,false,false,false,false,false,false,false,false,false,false,false,false,false,false,false,false,false,false,false,false,false,false,false,true,true,true] (fun i:Nat=>i≤ks.length) (fun i:Nat=>[(36,.d (.int .i64 i))]) (fun i:Nat=>[(3,.arr 26 true ((Dx x (ks.take i)).map Az))]) (fun i:Nat=>ks.length - i) 0 ?_ ?_ ?_
 · exact Nat.zero_le _
 · exact⟨[0,1,2,3,4,5],by simp[Dx,Az,e1,AC]⟩
 rintro I S μ hI hS hμ i hi;by_cases hlt:i<ks.length
 case neg =>
  obtain rfl:i=ks.length:=by omega
  rw[List.take_length];have hcl:=FG (x:=x) ks;simp[zz3 hlt,hlt];refine⟨by kernel_rfl,?_⟩;refine Ab (JR lit) ?_;simp
  first | refine Bs (q:=1) AM (by exact rfl) (by simp) (by exact rfl) (by exact rfl) (by simp) (by simp) (by first | (simp;done)|(simp;omega)) ?_|refine Br AM (by exact rfl) (by simp) (by exact rfl) (by simp) (by first | (simp;done)|(simp;omega)) ?_
  simp;simp[hB,hC,Eo,Az,e1,AC]
 have hx1:ks[i]? = some ks[i]:=zz0 hlt;have hnx:=LI (x:=x) hx1;have hcl:=FG (x:=x) (ks.take i);have hk:=hm _ (ABt hlt);have w4:IntKind.i64.wrap ((i:Int)+1)=(i:Int)+1:=Ad (by omega) (by omega);have hco:Kg x ks[i]=if Aa x≤ks[i].toNat then K6 x ks[i].toNat else []:=rfl;have hi2:(ks.take i).length≤400:=by simp;omega
 generalize Dx x (ks.take i)=cs at *;generalize Kg x ks[i]=co at *;generalize ks[i]=k at *;obtain⟨u,rfl⟩:∃ u:Nat,k=u:=⟨k.toNat,by omega⟩;rw[Int.toNat_natCast] at hco;by_cases hF1:Aa x≤u
 case neg =>
  rw[if_neg hF1] at hco;subst hco;simp[zz2 hlt,hx1];refine Ab (RV x u ⟨n1,n2⟩ n3 n4) ?_;simp[Ao,hF1,w4];exact Ae hI hS hμ (i+1) (by omega) (by omega) ⟨[0,1,2,3,4,5],by simp[hnx]⟩
 rw[if_pos hF1] at hco;obtain⟨ha,a1,a2,a3,a4,a5,a6⟩:=CW hok hF1 (by omega);have w5:IntKind.i64.wrap ((u:Int) - (1+x.1+x.2.1.length))=(u:Int) - (1+x.1+x.2.1.length):=Ad (by omega) (by omega);have ht:((u:Int) - (1+x.1+x.2.1.length)).toNat=u - Aa x:=by omega
 have hL:(At (Aj x u)).length=2:=rfl;have hn0:¬ (u:Int) - (1+x.1+x.2.1.length)<0:=by omega
 have hac:K6 x u=[[-((u:Int)+1),A4 (Aj x u).1],[-((u:Int)+1),A4 (Aj x u).2],[(u:Int)+1,-A4 (Aj x u).1,-A4 (Aj x u).2]]:=rfl;rw[hac] at hco;have lA:=H2 (Aj x u).1;have lB:=H2 (Aj x u).2;have kA:=JR (Aj x u).1;have kB:=JR (Aj x u).2;generalize A4 (Aj x u).1=va at *;generalize A4 (Aj x u).2=vb at *;obtain⟨g,hg⟩:∃ g,(u:Int)+1=g:=⟨_,rfl⟩;rw[hg] at hco;have w6:IntKind.i64.wrap ((u:Int)+1)=g:=by rw[←hg];exact Ad (by omega) (by omega)
 have w7:IntKind.i64.wrap (-g)=-g:=Ad (by omega) (by omega);have w8:IntKind.i64.wrap (-va)=-va:=Ad (by omega) (by omega);have w9:IntKind.i64.wrap (-vb)=-vb:=Ad (by omega) (by omega);have hun:u<A0 x:=Int.ofNat_lt.1 hk.2;subst hco;simp[zz2 hlt,hx1];refine Ab (RV x u ⟨n1,n2⟩ n3 n4) ?_;simp[Ao,hF1,hun];refine⟨by kernel_rfl,?_⟩;refine Ab (BF x ⟨n1,n2⟩ n3) ?_;simp[w5,ht,ha,hL,hn0,At,Ao,w6];refine⟨by kernel_rfl,?_⟩;refine Ab (kA) ?_;simp;refine Ab (kB) ?_;simp[w7,w8,w9]
 first | refine Bs (q:=1) AM (by exact rfl) (by simp) (by exact rfl) (by exact rfl) (by simp) (by simp) (by first | (simp;done)|(simp;omega)) ?_|refine Br AM (by exact rfl) (by simp) (by exact rfl) (by simp) (by first | (simp;done)|(simp;omega)) ?_
 simp[w4];exact Ae hI hS hμ (i+1) (by omega) (by omega) ⟨[0,1,2,11,4,5],by simp[hnx,Az,e1,AC]⟩
theorem Vz (x:AK) (lit:Int) (hx:Cz 1048576 x) (hg:JO x) (hlI:Jy lit):Bx Tryz.prog 17 [Ge x,.d (.int .i64 lit)] (.tup [aU (C5 x lit),.d (.bool (Db x lit))]):=by
 have kok:=Co x hx hg;have hB:Db x lit=(Al x&&DM lit 0 (2*(A0 x:Int) - 1)):=rfl;have hC:C5 x lit=if Db x lit=true then ((A0 x:Int),Ej x lit) else (0,[]):=rfl;refine A5 (by kernel_rfl) Tryz.func17 rfl rfl rfl ?_;simp[Ao]
 cases hok:Al x with
 | false =>
   rw[hok] at kok hB;simp only[Bool.false_and] at hB;rw[hB,if_neg (by simp)] at hC;refine Ab (kok) ?_;simp[Ao,hB,hC,Eo]
 | true =>
 obtain⟨⟨n1,n2,n3,n4,n5,n6⟩,-,-,-⟩:=AA hok;obtain⟨hF,hgl,hNi,hno⟩:=A7 hok;have hN:=Bp x;rw[hok] at kok hB;simp only[Bool.true_and] at hB;have kn:=Bt x;rw[hno] at kn;refine Ab (kok) ?_;simp[Ao];refine Ab (kn) ?_;simp[Ao];refine Ab (Hl lit (A0 x) hlI (by omega)) ?_;simp
 cases hr:DM lit 0 (2*(A0 x:Int) - 1) with
 | false =>
   rw[hr] at hB;rw[hB,if_neg (by simp)] at hC;simp[hr,hB,hC,Eo]
 | true =>
 have hr2:=AP.1 hr;rw[hr] at hB;rw[hB,if_pos rfl] at hC;have w3:IntKind.i64.wrap (lit.tdiv 2)=((lit.toNat / 2:Nat):Int):=by rw[Int.tdiv_eq_ediv_of_nonneg hr2.1,Ad (by omega) (by omega)];omega
 have hv:lit.toNat / 2<A0 x:=by omega
 have hnc:Ej x lit=Dx x (CV (Di x (lit.toNat / 2)))++[[A4 lit]]:=rfl;rw[hnc] at hC;generalize lit.toNat / 2=v at *;have hm:=fun y=>Kx (s:=Di x v) (y:=y);have hml:=Li (s:=Di x v);rw[E3] at hm hml;simp[hr];refine Ab (kn) ?_;simp[Ao,w3];refine Ab (Sq x v hx hg hok hv) ?_;simp[Ao];generalize CV (Di x v)=ks at *;refine AB [false,true,true,false,true,false,true,true,true] (fun i:Nat=>i≤ks.length) (fun i:Nat=>[(8,.d (.int .i64 i))]) (fun i:Nat=>[(3,.arr 26 true ((Dx x (ks.take i)).map Az))]) (fun i:Nat=>ks.length - i) 0 ?_ ?_ ?_
 · exact Nat.zero_le _
 · exact⟨[0,1,2,3,4,5],by simp[Dx,Az,e1,AC]⟩
 rintro I S μ hI hS hμ i hi;by_cases hlt:i<ks.length
 case neg =>
  obtain rfl:i=ks.length:=by omega
  rw[List.take_length];have hcl:=FG (x:=x) ks;simp[zz3 hlt,hlt];refine⟨by kernel_rfl,?_⟩;refine Ab (JM lit) ?_;simp
  first | refine Bs (q:=1) AM (by exact rfl) (by simp) (by exact rfl) (by exact rfl) (by simp) (by simp) (by first | (simp;done)|(simp;omega)) ?_|refine Br AM (by exact rfl) (by simp) (by exact rfl) (by simp) (by first | (simp;done)|(simp;omega)) ?_
  simp;simp[hB,hC,Eo,Az,e1,AC]
 have hx1:ks[i]? = some ks[i]:=zz0 hlt;have hnx:=LI (x:=x) hx1;have hcl:=FG (x:=x) (ks.take i);have hk:=hm _ (ABt hlt);have w4:IntKind.i64.wrap ((i:Int)+1)=(i:Int)+1:=Ad (by omega) (by omega);have hco:Kg x ks[i]=if Aa x≤ks[i].toNat then K6 x ks[i].toNat else []:=rfl;have hi2:(ks.take i).length≤400:=by simp;omega
 generalize Dx x (ks.take i)=cs at *;generalize Kg x ks[i]=co at *;generalize ks[i]=k at *;obtain⟨u,rfl⟩:∃ u:Nat,k=u:=⟨k.toNat,by omega⟩;rw[Int.toNat_natCast] at hco;by_cases hF1:Aa x≤u
 case neg =>
  rw[if_neg hF1] at hco;subst hco;simp[zz2 hlt,hx1];refine⟨by kernel_rfl,?_⟩;refine Ab (BE x ⟨n1,n2⟩ n3) ?_;simp[Ao,w4,show (u:Int)<1+x.1+x.2.1.length by omega];exact Ae hI hS hμ (i+1) (by omega) (by omega) ⟨[0,1,2,3,4,5],by simp[hnx]⟩
 rw[if_pos hF1] at hco;obtain⟨ha,a1,a2,a3,a4,a5,a6⟩:=CW hok hF1 (by omega);have w5:IntKind.i64.wrap ((u:Int) - (1+x.1+x.2.1.length))=(u:Int) - (1+x.1+x.2.1.length):=Ad (by omega) (by omega);have ht:((u:Int) - (1+x.1+x.2.1.length)).toNat=u - Aa x:=by omega
 have hL:(At (Aj x u)).length=2:=rfl;have hn0:¬ (u:Int) - (1+x.1+x.2.1.length)<0:=by omega
 have hac:K6 x u=[[-((u:Int)+1),A4 (Aj x u).1],[-((u:Int)+1),A4 (Aj x u).2],[(u:Int)+1,-A4 (Aj x u).1,-A4 (Aj x u).2]]:=rfl;rw[hac] at hco;have lA:=H2 (Aj x u).1;have lB:=H2 (Aj x u).2;have kA:=JM (Aj x u).1;have kB:=JM (Aj x u).2;generalize A4 (Aj x u).1=va at *;generalize A4 (Aj x u).2=vb at *;obtain⟨g,hg⟩:∃ g,(u:Int)+1=g:=⟨_,rfl⟩;rw[hg] at hco;have w6:IntKind.i64.wrap ((u:Int)+1)=g:=by rw[←hg];exact Ad (by omega) (by omega)
 have w7:IntKind.i64.wrap (-g)=-g:=Ad (by omega) (by omega);have w8:IntKind.i64.wrap (-va)=-va:=Ad (by omega) (by omega);have w9:IntKind.i64.wrap (-vb)=-vb:=Ad (by omega) (by omega);have hun:u<A0 x:=Int.ofNat_lt.1 hk.2;subst hco;simp[zz2 hlt,hx1];refine⟨by kernel_rfl,?_⟩;refine Ab (BE x ⟨n1,n2⟩ n3) ?_;simp[Ao,hx1,show ¬ (u:Int)<1+x.1+x.2.1.length by omega];refine⟨by kernel_rfl,?_⟩;refine Ab (BE x ⟨n1,n2⟩ n3) ?_;simp[w5,ht,ha,hL,hn0,At,Ao,w6,hx1];refine Ab (kA) ?_;simp;refine Ab (kB) ?_;simp[w7,w8,w9]
 first | refine Bs (q:=1) AM (by exact rfl) (by simp) (by exact rfl) (by exact rfl) (by simp) (by simp) (by first | (simp;done)|(simp;omega)) ?_|refine Br AM (by exact rfl) (by simp) (by exact rfl) (by simp) (by first | (simp;done)|(simp;omega)) ?_
 simp[w4];exact Ae hI hS hμ (i+1) (by omega) (by omega) ⟨[0,1,2,11,4,5],by simp[hnx,Az,e1,AC]⟩
end Go.Proofs.YtnjedabjbeipeaaGreat
