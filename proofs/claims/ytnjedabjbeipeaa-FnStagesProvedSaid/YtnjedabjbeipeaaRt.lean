/-
  The formula of a net, by abstract walks: both sides.
  Conditions: those typed in each theorem.
-/
import Derived.Test.YtnjedabjbeipeaaRr
import Derived.Test.YtnjedabjbeipeaaRo
import Derived.Test.YtnjedabjbeipeaaQe
namespace Go.Proofs.Ytnjedabjbeipeaa
open Go.RowKit Go.ChangeShapes Go.WideShapes
set_option linter.unusedSimpArgs false
set_option linter.unusedVariables false
set_option maxRecDepth 100000
set_option maxHeartbeats 10000000
def A3 (l:Int):Int:=if rng l 0 800=true then (if l % 2=1 then -(l / 2+1) else l / 2+1) else 0
theorem Nz (l:Int):-401≤A3 l∧A3 l≤401:=by
 unfold A3;split
 · rename_i h;have:=AN.1 h;split<;>omega
 · omega
theorem J1 (l:Int):CI Try.prog 125 [.d (.int .i64 l)] (.d (.int .i64 (A3 l))):=by
 refine BD (by kernel_rfl) Try.func125 rfl rfl rfl ?_;simp;refine Ab (CU _ _ _) ?_;simp;rcases ACS (rng l 0 800) with h|h
 · have hr:=AN.1 h;have w1:l.tmod 2=l % 2:=Int.tmod_eq_emod_of_nonneg hr.1;have w2:IntKind.i64.wrap (l.tdiv 2)=l / 2:=by rw[Int.tdiv_eq_ediv_of_nonneg hr.1,Af (by omega) (by omega)]
   have w3:IntKind.i64.wrap (l / 2+1)=l / 2+1:=Af (by omega) (by omega);have w4:IntKind.i64.wrap (-(l / 2+1))=-(l / 2+1):=Af (by omega) (by omega);by_cases h1:l % 2=1
   · have hl:A3 l=-(l / 2+1):=by unfold A3;rw[if_pos h,if_pos h1]
     simp[h,w1,w2,w3,w4,h1,hl]
   · have hl:A3 l=l / 2+1:=by unfold A3;rw[if_pos h,if_neg h1]
     simp[h,w1,w2,w3,w4,h1,hl,show (l % 2==1)=false by simpa using h1]
 · have hl:A3 l=0:=by unfold A3;rw[if_neg (by simp[h])]
   simp[h,hl]
def GR (x:AB) (v:Nat):List BB :=
 [[-((v:Int)+1),A3 (Al x v).1],[-((v:Int)+1),A3 (Al x v).2],[(v:Int)+1,-A3 (Al x v).1,-A3 (Al x v).2]]
def Jp (x:AB) (k:Int):List BB:=if Aa x≤k.toNat then GR x k.toNat else []
def DF (x:AB) (ks:List Int):List BB:=[-1]::ks.flatMap (Jp x)
def CX (x:AB) (lit:Int):List BB:=DF x (DM (ER x (lit.toNat / 2)))++[[A3 lit]]
def C3 (x:AB) (lit:Int):Bool:=Aj x&&rng lit 0 (2*(AR x:Int) - 1)
def Ch (x:AB) (lit:Int):Xr:=if C3 x lit=true then ((AR x:Int),CX x lit) else (0,[])
theorem R9 {s:List Bool} {y:Int} (h:y∈DM s):0≤y∧y<s.length:=by
 unfold DM Ep at h;obtain⟨a,ha,hv⟩:=ACP.1 h;have:=ACJ.1 (ACQ.1 ha).1;omega
theorem Qj {s:List Bool}:(DM s).length≤s.length:=by
 unfold DM Ep;rw[ACH];exact Nat.le_trans (List.length_filter_le _ _) (by simp)
theorem cC {x:AB} {k:Int}:(Jp x k).length≤3:=by unfold Jp GR;split<;>simp
theorem Tw {x:AB} {ks:List Int} {i:Nat} {k:Int} (h:ks[i]? = some k):DF x (ks.take (i+1))=DF x (ks.take i)++Jp x k:=by
 unfold DF;rw[Bh h,List.flatMap_append];simp
theorem HT {x:AB}:∀ (ks:List Int),(DF x ks).length≤1+3*ks.length
 | []=>by simp[DF]
 | k::ks=>by
   have ih:=HT (x:=x) ks;have:=cC (x:=x) (k:=k);simp only[DF,List.length_cons,List.flatMap_cons,ACg] at ih ⊢;omega
theorem NH {x:AB} {lit:Int} (hok:Aj x=true):(CX x lit).length≤1203:=by
 obtain⟨-,hgl,-,-⟩:=Bz hok;have h1:=HT (x:=x) (DM (ER x (lit.toNat / 2)));have h2:=Qj (s:=ER x (lit.toNat / 2));rw[Hg] at h2;unfold CX;simp only[ACg,List.length_cons,List.length_nil];omega
theorem LV {x:AB} {lit:Int}:∀ r∈CX x lit,r.length≤3:=by
 intro r hr;unfold CX DF at hr;rcases ACE.1 hr with h|h
 · rcases List.mem_cons.1 h with rfl|h
   · simp
   · obtain⟨k,-,hk⟩:=List.mem_flatMap.1 h;unfold Jp at hk;split at hk
     · simp only[GR,List.mem_cons,List.not_mem_nil,or_false] at hk;rcases hk with rfl|rfl|rfl<;>simp
     · simp at hk
 · rw[zz9.1 h];simp
theorem OR {x:AB} {lit:Int}:Yy 1048576 (Ch x lit):=by
 unfold Ch;split
 · rename_i h;unfold C3 at h;simp only[Bool.and_eq_true] at h;exact⟨by have:=NH (lit:=lit) h.1;simp only;omega,fun r hr=>by have:=LV r hr;omega⟩
 · exact⟨by simp,by simp⟩
theorem NZ (x:AB) (lit:Int) (hx:DQ 1048576 x):CI Try.prog 74 [N7 x,.d (.int .i64 lit)] (.tup [cQ (Ch x lit),.d (.bool (C3 x lit))]):=by
 have kok:=FU x hx;have hB:C3 x lit=(Aj x&&rng lit 0 (2*(AR x:Int) - 1)):=rfl;have hC:Ch x lit=if C3 x lit=true then ((AR x:Int),CX x lit) else (0,[]):=rfl;refine BD (by kernel_rfl) Try.func74 rfl rfl rfl ?_;simp[AL]
 cases hok:Aj x with
 | false =>
   rw[hok] at kok hB;simp only[Bool.false_and] at hB;rw[hB,if_neg (by simp)] at hC;refine Ab (kok) ?_;simp[AL,hB,hC,FP]
 | true =>
 obtain⟨⟨n1,n2,n3,n4,n5,n6⟩,-,-,-⟩:=Ax hok;obtain⟨hF,hgl,hNi,hno⟩:=Bz hok;have hN:=Bn x;rw[hok] at kok hB;simp only[Bool.true_and] at hB;have w1:IntKind.i64.wrap (2*(AR x:Int))=2*(AR x:Int):=Af (by omega) (by omega);have w2:IntKind.i64.wrap (2*(AR x:Int) - 1)=2*(AR x:Int) - 1:=Af (by omega) (by omega);refine Ab (kok) ?_;simp[AL];refine Ab (BL x ⟨n1,n2⟩ n3 n4) ?_;simp[AL,hNi,w1,w2];refine Ab (CU _ _ _) ?_;simp
 cases hr:rng lit 0 (2*(AR x:Int) - 1) with
 | false =>
   rw[hr] at hB;rw[hB,if_neg (by simp)] at hC;simp[hr,hB,hC,FP]
 | true =>
 have hr2:=AN.1 hr;rw[hr] at hB;rw[hB,if_pos rfl] at hC;have w3:IntKind.i64.wrap (lit.tdiv 2)=((lit.toNat / 2:Nat):Int):=by rw[Int.tdiv_eq_ediv_of_nonneg hr2.1,Af (by omega) (by omega)];omega
 have hv:lit.toNat / 2<AR x:=by omega
 have hnc:CX x lit=DF x (DM (ER x (lit.toNat / 2)))++[[A3 lit]]:=rfl;rw[hnc] at hC;generalize lit.toNat / 2=v at *;have hm:=fun y=>R9 (s:=ER x v) (y:=y);have hml:=Qj (s:=ER x v);rw[Hg] at hm hml;simp[hr];refine Ab (BL x ⟨n1,n2⟩ n3 n4) ?_;simp[AL,hNi,w3];refine Ab (iE x v hx hok hv) ?_;simp[AL];generalize DM (ER x v)=ks at *;refine AY [false,true,true,false,true,false,true,false,false,false,false,false,false,false,false,false,false,false,false,false,false,false,false,false,false,false,false,false,false,false,false,false,false,false,true,true,true] (fun i:Nat=>i≤ks.length) (fun i:Nat=>[(36,.d (.int .i64 i))]) (fun i:Nat=>[(3,.arr 26 true ((DF x (ks.take i)).map Aq))]) (fun i:Nat=>ks.length - i) 0 ?_ ?_ ?_
 · exact Nat.zero_le _
 · exact⟨[0,1,2,3,4,5],by simp[DF,Aq,e1,Az]⟩
 rintro I S μ hI hS hμ i hi;by_cases hlt:i<ks.length
 case neg =>
  obtain rfl:i=ks.length:=by omega
  rw[List.take_length];have hcl:=HT (x:=x) ks;simp[zz3 hlt,hlt];refine⟨by kernel_rfl,?_⟩;refine Ab (J1 lit) ?_;simp
  first | refine BT (q:=1) AK (by exact rfl) (by simp) (by exact rfl) (by exact rfl) (by simp) (by simp) (by first | (simp;done)|(simp;omega)) ?_|refine BU AK (by exact rfl) (by simp) (by exact rfl) (by simp) (by first | (simp;done)|(simp;omega)) ?_
  simp;simp[hB,hC,FP,Aq,e1,Az]
 have hx1:ks[i]? = some ks[i]:=zz0 hlt;have hnx:=Tw (x:=x) hx1;have hcl:=HT (x:=x) (ks.take i);have hk:=hm _ (AB7 hlt);have w4:IntKind.i64.wrap ((i:Int)+1)=(i:Int)+1:=Af (by omega) (by omega);have hco:Jp x ks[i]=if Aa x≤ks[i].toNat then GR x ks[i].toNat else []:=rfl;have hi2:(ks.take i).length≤400:=by simp;omega
 generalize DF x (ks.take i)=cs at *;generalize Jp x ks[i]=co at *;generalize ks[i]=k at *;obtain⟨u,rfl⟩:∃ u:Nat,k=u:=⟨k.toNat,by omega⟩;rw[Int.toNat_natCast] at hco;by_cases hF1:Aa x≤u
 case neg =>
  rw[if_neg hF1] at hco;subst hco;simp[zz2 hlt,hx1];refine Ab (It x u ⟨n1,n2⟩ n3 n4) ?_;simp[AL,hF1,w4];exact Ae hI hS hμ (i+1) (by omega) (by omega) ⟨[0,1,2,3,4,5],by simp[hnx]⟩
 rw[if_pos hF1] at hco;obtain⟨ha,a1,a2,a3,a4,a5,a6⟩:=Cy hok hF1 (by omega);have w5:IntKind.i64.wrap ((u:Int) - (1+x.1+x.2.1.length))=(u:Int) - (1+x.1+x.2.1.length):=Af (by omega) (by omega);have ht:((u:Int) - (1+x.1+x.2.1.length)).toNat=u - Aa x:=by omega
 have hL:(Ao (Al x u)).length=2:=rfl;have hn0:¬ (u:Int) - (1+x.1+x.2.1.length)<0:=by omega
 have hac:GR x u=[[-((u:Int)+1),A3 (Al x u).1],[-((u:Int)+1),A3 (Al x u).2],[(u:Int)+1,-A3 (Al x u).1,-A3 (Al x u).2]]:=rfl;rw[hac] at hco;have lA:=Nz (Al x u).1;have lB:=Nz (Al x u).2;have kA:=J1 (Al x u).1;have kB:=J1 (Al x u).2;generalize A3 (Al x u).1=va at *;generalize A3 (Al x u).2=vb at *;obtain⟨g,hg⟩:∃ g,(u:Int)+1=g:=⟨_,rfl⟩;rw[hg] at hco;have w6:IntKind.i64.wrap ((u:Int)+1)=g:=by rw[←hg];exact Af (by omega) (by omega)
 have w7:IntKind.i64.wrap (-g)=-g:=Af (by omega) (by omega);have w8:IntKind.i64.wrap (-va)=-va:=Af (by omega) (by omega);have w9:IntKind.i64.wrap (-vb)=-vb:=Af (by omega) (by omega);have hun:u<AR x:=Int.ofNat_lt.1 hk.2;subst hco;simp[zz2 hlt,hx1];refine Ab (It x u ⟨n1,n2⟩ n3 n4) ?_;simp[AL,hF1,hun];refine⟨by kernel_rfl,?_⟩;refine Ab (AW x ⟨n1,n2⟩ n3) ?_;simp[w5,ht,ha,hL,hn0,Ao,AL,w6];refine⟨by kernel_rfl,?_⟩;refine Ab (kA) ?_;simp;refine Ab (kB) ?_;simp[w7,w8,w9]
 first | refine BT (q:=1) AK (by exact rfl) (by simp) (by exact rfl) (by exact rfl) (by simp) (by simp) (by first | (simp;done)|(simp;omega)) ?_|refine BU AK (by exact rfl) (by simp) (by exact rfl) (by simp) (by first | (simp;done)|(simp;omega)) ?_
 simp[w4];exact Ae hI hS hμ (i+1) (by omega) (by omega) ⟨[0,1,2,11,4,5],by simp[hnx,Aq,e1,Az]⟩
theorem Sa {m:AB} {ra rb:List Int} {an0:List Ah} (hf:0<Aa m) (h0:Aj (Cl m an0)=true) (h300:an0.length≤300)
 (hA:∀ k∈ra,0≤k∧k<2*((Aa m:Int)+an0.length)) (hB:∀ k∈rb,0≤k∧k<2*((Aa m:Int)+an0.length)) {n:Nat} (hn:n≤ra.length) (hm:n≤rb.length) :
 ∀ i,i≤n→(A1 (Aa m) ra rb an0 i).2.2=true→Aj (Cl m (A1 (Aa m) ra rb an0 i).2.1)=true
 | 0,_,_=>h0
 | i+1,hi,h=>by
   have ih:=Sa hf h0 h300 hA hB hn hm i (by omega);have hgf:=Fp (fa:=Aa m) (by omega) h300 hA hB hn hm i (by omega);obtain⟨⟨s,an,b⟩,hst⟩:∃ q,A1 (Aa m) ra rb an0 i=q:=⟨_,rfl⟩;rw[hst] at ih hgf
   cases b with
   | false =>
     rw[A1,hst,if_pos rfl] at h;simp at h
   | true =>
   have ih:=ih rfl;obtain⟨g1,g2,g3⟩:=hgf rfl;simp only at ih g1 g2 g3;have hstp:=E7 hst;have hx1:ra[i]? = some (ra.getD i 0):=by rw[List.getD_eq_getElem?_getD,zz0 (by omega)];rfl
   have hx2:rb[i]? = some (rb.getD i 0):=by rw[List.getD_eq_getElem?_getD,zz0 (by omega)];rfl
   have b1:=hA _ (zz6 hx1);have b2:=hB _ (zz6 hx2);generalize ra.getD i 0=xa at *;generalize rb.getD i 0=xb at *;have hgN:(AR (Cl m an):Int)=Aa m+an.length:=by rw[He];omega
   have eX:=iQ (x:=Cl m an) (a:=xa) (b:=xb) g3 (by omega) (by omega);have hmX:=Vm (x:=Cl m an) (a:=xa) (b:=xb) ih;have xr:=Ii (fa:=Aa m) (an:=an) (a:=xa) (b:=xb) (by omega) g3 (by omega) (by omega);have eF:Ce (Aa (Cl m an)) (Cl m an).2.2.1 xa xb=Ce (Aa m) an xa xb:=rfl;rw[eF] at eX;obtain⟨⟨xv,an1⟩,hX⟩:∃ q,Ce (Aa m) an xa xb=q:=⟨_,rfl⟩;rw[hX] at eX xr hstp;obtain⟨x1,x2,x3,x4⟩:=xr;simp only at x1 x2 x3 x4 hstp eX;by_cases hv:xv<0
   · rw[if_pos hv] at hstp;rw[hstp] at h;simp at h
   rw[if_neg hv] at eX hstp;rw[eX] at hmX;simp only at hmX;have hgN2:(AR (Cl (Cl m an) an1):Int)=Aa m+an1.length:=by rw[He,show Aa (Cl m an)=Aa m from rfl];omega
   have eO:=Y0 (x:=Cl (Cl m an) an1) (a:=s) (b:=xv) (by omega) (by omega);rw[show Aa (Cl (Cl m an) an1)=Aa m from rfl,show (Cl (Cl m an) an1).2.2.1=an1 from rfl] at eO;have hmO2:=(Qp (x:=Cl (Cl m an) an1) (a:=s) (b:=xv) hmX).2.2;by_cases hv2:E4 (Aa m) an1 s xv<0
   · rw[if_pos hv2] at hstp;rw[hstp] at h;simp at h
   rw[if_neg hv2] at eO hstp;rw[eO] at hmO2;rw[hstp];exact hmO2
theorem Ox {a b:AB} (h:Ft a b=true):Aj (DV a b)=true∧(DV a b).2.2.2=[(Dx a b).1]∧isI (Dx a b).1:=by
 have hG:DV a b=if Ft a b=true then (a.1+(a.2.1.length:Int),[],(Dx a b).2.1,[(Dx a b).1]) else (0,[],[],[]):=rfl;rw[if_pos h] at hG;have hO:Ft a b=(Jm a b&&(Cc a).2.2&&(Ci a b).2.2&&(Dx a b).2.2):=rfl;rw[h] at hO;have hO:=hO.symm;simp only[Bool.and_eq_true] at hO;obtain⟨⟨⟨hC,o1⟩,o2⟩,o3⟩:=hO;obtain⟨hoa,hob,h1,h2,h3,h4,hfb,hrl⟩:=Oz hC;obtain⟨⟨n1,n2,n3,n4,n5,n6⟩,-,-,-⟩:=Ax hoa;obtain⟨⟨m1,m2,m3,m4,m5,m6⟩,-,-,-⟩:=Ax hob;obtain⟨hFa,hga,hNa,-⟩:=Bz hoa;obtain⟨hFb,hgb,hNb,-⟩:=Bz hob;have hNea:=Bn a;have hNeb:=Bn b;obtain⟨I,hI⟩:∃ I,a.1+(a.2.1.length:Int)=I:=⟨_,rfl⟩;rw[hI] at hG;have hI20:0≤I∧I≤20:=by omega
 have hfm:Aa ((I,[],[],[]):AB)=Aa a:=by unfold Aa;simp;unfold Aa at hFa;omega
 have hm0:Aj ((I,[],[],[]):AB)=true:=by
  unfold Aj CW;rw[if_pos ⟨AN.2 (by omega),by simp,by simp,by simp⟩];simp[At,MN,BO];omega
 have p1:=G6 (x:=a) hoa (an0:=[]) (by simp) rfl (i:=a.2.2.1.length) (Nat.le_refl _);have hi1:Cx a [] a.2.2.1.length=Cc a:=rfl;rw[hi1] at p1;have hi2:Cx b (Cc a).2.1 b.2.2.1.length=Ci a b:=rfl;have p2:=G6 (x:=b) hob p1.1.an (by rw[hfb];exact p1.1.ok) (i:=b.2.2.1.length) (Nat.le_refl _);rw[hi2] at p2;have hMr:Dx a b=A1 (Aa a) (BH a (Cc a).1) (BH b (Ci a b).1) (Ci a b).2.1 (At a).length:=rfl;have hra:(BH a (Cc a).1).length=(At a).length:=by simp[BH]
 have hrb:(BH b (Ci a b).1).length=(At a).length:=by simp[BH,hrl]
 have h300:(Ci a b).2.1.length≤300:=p2.1.an;have hmB:Aj (Cl ((I,[],[],[]):AB) (Ci a b).2.1)=true:=NR hm0 (by simp) p2.1.an (by rw[hfm,←hfb];exact p2.1.ok);have hpA:=p1.1.pl;have hpB:=p2.1.pl;rw[hfb] at hpB;have hle:=p2.2
 have hrA:∀ k:Int,k∈BH a (Cc a).1→0≤k∧k<2*((Aa a:Int)+(Ci a b).2.1.length):=fun k hk=>by
  obtain⟨l,-,rfl⟩:=ACP.1 hk;have hq:Oh ((Aa a:Int)+(Ci a b).2.1.length) (Cc a).1:=Hb hpA (by omega);exact Bf (Bw hq (by omega) _) (by omega)
 have hrB:∀ k:Int,k∈BH b (Ci a b).1→0≤k∧k<2*((Aa a:Int)+(Ci a b).2.1.length):=fun k hk=>by
  obtain⟨l,-,rfl⟩:=ACP.1 hk;exact Bf (Bw hpB (by omega) _) (by omega)
 have hgf:=Fp (fa:=Aa a) (by omega) h300 hrA hrB (n:=(At a).length) (by omega) (by omega) _ (Nat.le_refl _);have hgn:=Sa (m:=((I,[],[],[]):AB)) (by omega) hmB h300 (by rw[hfm];exact hrA) (by rw[hfm];exact hrB) (n:=(At a).length) (by omega) (by omega) _ (Nat.le_refl _);rw[hfm,←hMr] at hgn;rw[←hMr] at hgf;obtain⟨g1,g2,g3⟩:=hgf o3;have hgn:=hgn o3;generalize Dx a b=R at *;obtain⟨l,an,bb⟩:=R;simp only at g1 g2 g3 hgn hG;rw[hG];refine⟨?_,rfl,by unfold isI;simp only;omega⟩
 have hn:CW ((I,[],an,[l]):AB)=1+I+an.length:=by
  unfold CW;rw[if_pos ⟨AN.2 hI20,by simp,g3,by simp⟩];simp
 have hA:=V7 hgn;rw[show Aa (Cl ((I,[],[],[]):AB) an)=Aa a from hfm] at hA;unfold Aj;rw[hn];simp only[Bool.and_eq_true,decide_eq_true_eq];refine⟨⟨⟨by omega,by simp⟩,?_⟩,?_⟩
 · simp only[MN,At,List.map_nil,List.flatten_nil,List.append_nil,List.all_cons,List.all_nil,Bool.and_true];exact AN.2 (by omega)
 · have e:(1+I+(([]:List Dl).length:Int))=Aa a:=by rw[List.length_nil];omega
   rw[e];exact hA
def QJ (a b:AB) (pf:List BB):Bool:=Ft a b&&JU (Ch (DV a b) (Dx a b).1).1 (Ch (DV a b) (Dx a b).1).2 pf
theorem EJ (a b:AB) (pf:List BB) (ha:DQ 1048576 a) (hb:DQ 1048576 b) (hp:ID 1048576 pf):CI Try.prog 27 [N7 a,N7 b,Un pf] (.d (.bool (QJ a b pf))):=by
 have hE:QJ a b pf=(Ft a b&&JU (Ch (DV a b) (Dx a b).1).1 (Ch (DV a b) (Dx a b).1).2 pf):=rfl;have km:=PK a b ha hb
 cases ho:Ft a b with
 | false =>
   rw[ho] at hE km;simp only[Bool.false_and] at hE;rw[hE];refine E1 (by kernel_rfl) Try.func27 rfl rfl rfl ?_;simp[AL];refine Ab (km) ?_;simp[AL]
 | true =>
   rw[ho] at hE km;simp only[Bool.true_and] at hE;obtain⟨g1,g2,g3⟩:=Ox ho;have kn:=NZ (DV a b) (Dx a b).1 (Bj g1);have hfc:=OR (x:=DV a b) (lit:=(Dx a b).1);generalize DV a b=g at *;generalize (Dx a b).1=l at *;have kc:=WY (Ch g l) pf hfc hp;rw[←hE] at kc;generalize QJ a b pf=r at *;generalize Ch g l=c at *;obtain⟨gi,gs,gan,go⟩:=g;simp only at g2;subst g2;refine E1 (by kernel_rfl) Try.func27 rfl rfl rfl ?_;simp[AL];refine Ab (km) ?_;simp[AL,e1];refine AS [(10,[8]),(11,[])] (by kernel_rfl) ?_;simp[AL,e1];refine Ab (kn) ?_;simp[AL,FP,e1];refine Ab (kc) ?_;simp[FP]
end Go.Proofs.Ytnjedabjbeipeaa
