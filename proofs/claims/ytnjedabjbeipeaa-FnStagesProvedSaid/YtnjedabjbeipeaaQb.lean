/-
  Formulas, values, units and propagation, by abstract walks: both sides.
  Conditions: those typed in each theorem.
-/
import Derived.Test.YtnjedabjbeipeaaSr
namespace Go.Proofs.Ytnjedabjbeipeaa
open Go.RowKit Go.ChangeShapes Go.WideShapes
set_option linter.unusedSimpArgs false
set_option linter.unusedVariables false
set_option maxRecDepth 100000
set_option maxHeartbeats 10000000
def Ug (v:Int) (cl:List Int):Bool:=cl.all (Ij v)
def Z4 (v:Int) (cls:List BB):Bool:=cls.all (CL v)
theorem KV (cl:List Int) (v:Int) (hv:0≤v∧v≤400) (hl:cl.length≤1048576):CI Try.prog 128 [ints cl,.d (.int .i64 v)] (.d (.bool (CL v cl))):=by
 have hB:CL v cl=(decide (cl.length≤400)&&Ug v cl):=rfl;rw[hB];refine BD (by kernel_rfl) Try.func128 rfl rfl rfl ?_;by_cases h4:cl.length≤400
 case neg=>simp[h4,show (400:Int)<cl.length by omega,show ¬ (cl.length:Int)≤400 by omega]
 have wn:IntKind.i64.wrap (-v)=-v:=Af (by omega) (by omega);simp[show ¬ (400:Int)<cl.length by omega,show (cl.length:Int)≤400 by omega,h4];refine AY [false,true,false,false,false,false,false,false,false,false,true,true,true] (fun k:Nat=>k≤cl.length∧Ug v (cl.take k)=true) (fun k:Nat=>[(12,.d (.int .i64 k))]) (fun k:Nat=>[]) (fun k:Nat=>cl.length - k) 0 ?_ ?_ ?_
 · exact⟨by omega,rfl⟩
 · exact⟨[],by simp⟩
 rintro I S μ hI hS hμ k ⟨hk,ha⟩;by_cases hlt:k<cl.length
 · have hx1:cl[k]? = some cl[k]:=zz0 hlt;have w2:IntKind.i64.wrap ((k:Int)+1)=(k:Int)+1:=Af (by omega) (by omega);have hd:decide (k<cl.length)=true:=zz2 hlt;have hsn:Ug v (cl.take (k+1))=(Ug v (cl.take k)&&Ij v cl[k]):=Fu hx1;have hno:Ij v cl[k]=false→Ug v cl=false:=In hx1;have hlo:Ij v cl[k]=(!(cl[k]==0)&&rng cl[k] (-v) v):=rfl;generalize cl[k]=y at *;by_cases hy:y=0
   · have hz:=hno (by rw[hlo,hy];rfl);simp[hd,hx1,hy,hz]
   have hy2:(y==0)=false:=by simpa using hy
   simp[hd,hx1,hy,hy2,wn];refine Ab (CU _ _ _) ?_;simp;rcases ACS (rng y (-v) v) with hr|hr
   · simp[hr,w2];exact Ae hI hS hμ (k+1) ⟨by omega,by rw[hsn,ha,hlo,hr,hy2];rfl⟩ (by omega) ⟨[],by simp⟩
   · have hz:=hno (by rw[hlo,hr];simp);simp[hr,hz]
 · have hk':k=cl.length:=by omega
   rw[hk',List.take_length] at ha;simp[hlt,ha]
theorem Qv (x:Xr) (hx:Yy 1048576 x):CI Try.prog 126 [cQ x] (.d (.bool (Fc x.1 x.2))):=by
 obtain⟨v,cls⟩:=x;obtain⟨hx1',hx2⟩:=hx;have hB:Fc v cls=(rng v 0 400&&decide (cls.length≤1600)&&Z4 v cls):=rfl;simp only at hx1' hx2;simp only[hB];refine BD (by kernel_rfl) Try.func126 rfl rfl rfl ?_;simp[FP];refine Ab (CU _ _ _) ?_;simp;rcases ACS (rng v 0 400) with hv|hv
 case inr=>simp[hv]
 have hv2:=AN.1 hv;by_cases h4:cls.length≤1600
 case neg=>simp[hv,h4,show (1600:Int)<cls.length by omega,show ¬ (cls.length:Int)≤1600 by omega]
 simp[hv,show ¬ (1600:Int)<cls.length by omega,show (cls.length:Int)≤1600 by omega,h4];refine AY [false,true,false,false,false,false,false,false,false,false,false,false,false,false,false,false,true,true,true] (fun k:Nat=>k≤cls.length∧Z4 v (cls.take k)=true) (fun k:Nat=>[(18,.d (.int .i64 k))]) (fun k:Nat=>[]) (fun k:Nat=>cls.length - k) 0 ?_ ?_ ?_
 · exact⟨by omega,rfl⟩
 · exact⟨[0],by simp⟩
 rintro I S μ hI hS hμ k ⟨hk,ha⟩;by_cases hlt:k<cls.length
 · have hx1:cls[k]? = some cls[k]:=zz0 hlt;have hL:(Aq cls[k]).length=1:=rfl;have w2:IntKind.i64.wrap ((k:Int)+1)=(k:Int)+1:=Af (by omega) (by omega);have hd:decide (k<cls.length)=true:=zz2 hlt;have hsn:Z4 v (cls.take (k+1))=(Z4 v (cls.take k)&&CL v cls[k]):=Fu hx1;have hno:CL v cls[k]=false→Z4 v cls=false:=In hx1;have hcl:=hx2 _ (AB7 hlt);generalize cls[k]=y at *;simp[hd,hx1,hL,Aq];refine Ab (KV y v hv2 hcl) ?_;simp;rcases ACS (CL v y) with hr|hr
   · simp[hr,w2];exact Ae hI hS hμ (k+1) ⟨by omega,by rw[hsn,ha,hr];rfl⟩ (by omega) ⟨[0],by simp⟩
   · have hz:=hno hr;simp[hr,hz]
 · have hk':k=cls.length:=by omega
   rw[hk',List.take_length] at ha;simp[hlt,ha]
theorem C1 {n:Nat} {l:Int} (h:Cu n l):(∃ m:Nat,m<n∧l=(m:Int)+1)∨(∃ m:Nat,m<n∧l=-((m:Int)+1)):=by
 obtain⟨h1,h2,h3⟩:=h;by_cases hp:0<l
 · exact .inl ⟨(l - 1).toNat,by omega,by omega⟩
 · exact .inr ⟨(-l - 1).toNat,by omega,by omega⟩
theorem FG {p:List Int} {m:Nat}:Bq p ((m:Int)+1)=p.getD m 0:=by
 unfold Bq;rw[if_neg (by omega)]
 congr 1
 omega
theorem FL {p:List Int} {m:Nat}:Bq p (-((m:Int)+1))=-(p.getD m 0):=by
 unfold Bq;rw[if_pos (by omega)]
 congr 2
 omega
theorem getD_some {p:List Int} {m:Nat} (h:m<p.length):p[m]? = some (p.getD m 0):=by
 rw[List.getD_eq_getElem?_getD,zz0 h];rfl
theorem TW {p:List Int} (ht:Cj p) (m:Nat):-1≤p.getD m 0∧p.getD m 0≤1:=by
 rw[List.getD_eq_getElem?_getD]
 cases h:p[m]? with
 | none=>simp
 | some x=>exact ht x (zz6 h)
theorem UP (p:List Int) (l:Int) (hp:p.length≤1048576) (ht:Cj p) (hl:Cu p.length l):CI Try.prog 153 [ints p,.d (.int .i64 l)] (.d (.int .i64 (Bq p l))):=by
 refine BD (by kernel_rfl) Try.func153 rfl rfl rfl ?_;rcases C1 hl with ⟨m,hm,e⟩|⟨m,hm,e⟩
 · have hg:=getD_some hm;have w1:IntKind.i64.wrap (l - 1)=(m:Int):=by rw[Af (by omega) (by omega)];omega
   have hv:Bq p l=p.getD m 0:=by rw[e];exact FG
   rw[hv];generalize p.getD m 0=q at *;simp[show ¬ l<0 by omega,w1,hg]
 · have hg:=getD_some hm;have htr:=TW ht m;have w0:IntKind.i64.wrap (-l)=(m:Int)+1:=by rw[Af (by omega) (by omega)];omega
   have w1:IntKind.i64.wrap (m:Int)=(m:Int):=Af (by omega) (by omega);have hv:Bq p l=-(p.getD m 0):=by rw[e];exact FL
   rw[hv];generalize p.getD m 0=q at *;have w3:IntKind.i64.wrap (-q)=-q:=Af (by omega) (by omega);simp[show l<0 by omega,w0,w1,hg,w3]
theorem Cm (xs:List Int) (h:xs.length≤1048576):CI Try.prog 81 [.d (B3 3 (e1 Az) xs)] (.d (B3 3 (e1 Az) xs)):=by
 refine BD (by kernel_rfl) Try.func81 rfl rfl rfl ?_;simp;refine Aw AX rfl (by simp) rfl (by simp) (by simp) (by first | (simp;done)|(simp;omega)) (by simp[Bp,A4]) ?_;simp
theorem lK {cl p:List Int} {k:Nat} {x u:Int} (hx:cl[k]? = some x):Dm p (cl.drop k) u=if Bq p x=1 then (0,false) else if Bq p x=0 then (if u≠0∧u≠x then (0,false) else Dm p (cl.drop (k+1)) x) else Dm p (cl.drop (k+1)) u:=by
 obtain⟨hk,rfl⟩:=zz1.1 hx;rw[List.drop_eq_getElem_cons hk,Dm]
theorem bP (cl p:List Int) (hc:cl.length≤1048576) (hp:p.length≤1048576) (ht:Cj p) (hl:∀ l∈cl,Cu p.length l):CI Try.prog 165 [ints cl,ints p] (.tup [.d (.int .i64 (B8 p cl).1),.d (.bool (B8 p cl).2)]):=by
 refine BD (by kernel_rfl) Try.func165 rfl rfl rfl ?_;simp;refine AY [false,true,false,false,false,false,true,false,false,true,true,true] (fun i:Nat×Int=>i.1≤cl.length∧Dm p (cl.drop i.1) i.2=B8 p cl) (fun i:Nat×Int=>[(6,.d (.int .i64 i.2)),(11,.d (.int .i64 i.1))]) (fun i:Nat×Int=>[]) (fun i:Nat×Int=>cl.length - i.1) (0,0) ?_ ?_ ?_
 · exact⟨Nat.zero_le _,by simp[B8]⟩
 · exact⟨[],by simp⟩
 rintro I S μ hI hS hμ ⟨k,u⟩ ⟨hk,hs⟩;simp only at hk hs;by_cases hlt:k<cl.length
 · have hx1:cl[k]? = some cl[k]:=zz0 hlt;have w2:IntKind.i64.wrap ((k:Int)+1)=(k:Int)+1:=Af (by omega) (by omega);have hd:decide (k<cl.length)=true:=zz2 hlt;have hli:=hl _ (AB7 hlt);rw[lK hx1] at hs;generalize cl[k]=x at *;have hc1:=UP p x hp ht hli;generalize Bq p x=v at *;generalize B8 p cl=R at *;simp[hd,hx1];refine Ab (hc1) ?_;simp;by_cases h1:v=1
   · rw[if_pos h1] at hs;subst h1;simp[←hs]
   rw[if_neg h1] at hs;have h1':(v==1)=false:=by simpa using h1
   by_cases h0:v=0
   case neg =>
    rw[if_neg h0] at hs;simp[h1,h1',h0,show (v==0)=false by simpa using h0,w2];exact Ae hI hS hμ (k+1,u) ⟨by simp;omega,hs⟩ (by simp;omega) ⟨[],by simp⟩
   rw[if_pos h0] at hs;subst h0;by_cases hu:u=0
   · rw[if_neg (by simp[hu])] at hs;simp[h1,h1',hu,w2];exact Ae hI hS hμ (k+1,x) ⟨by simp;omega,hs⟩ (by simp;omega) ⟨[],by simp⟩
   by_cases hux:u=x
   · rw[if_neg (by simp[hux])] at hs;subst hux;simp[h1,h1',hu,show (u != 0)=true by simpa using hu,w2];exact Ae hI hS hμ (k+1,u) ⟨by simp;omega,hs⟩ (by simp;omega) ⟨[],by simp⟩
   · rw[if_pos ⟨hu,hux⟩] at hs;simp[h1,h1',hu,show (u != 0)=true by simpa using hu,hux,show (u != x)=true by simpa using hux,←hs]
 · have hk':k=cl.length:=by omega
   subst hk';rw[List.drop_length,Dm] at hs;generalize B8 p cl=R at *;simp[hlt,←hs]
theorem gF {cls:List BB} {k:Nat} {x:BB} (hx:cls[k]? = some x) (q:List Int) (b:Bool) :
 DA (cls.drop k) q b=if (B8 q x).2=true then none else if (B8 q x).1=0 then DA (cls.drop (k+1)) q b else DA (cls.drop (k+1)) (Co q (B8 q x).1) true:=dK hx q b
abbrev AB0 (R:Option (List Int)):X:=.tup [ints (R.getD []),.d (.bool R.isSome)]
theorem Gz {q:List Int} {m:Nat} {v:Int}:(q.map (e1 Az)).set m [.int .i64 v]=(q.set m v).map (e1 Az):=by rw[List.map_set];rfl
theorem FW (cls:List BB) (p:List Int) (R:Option (List Int)) (hR:En cls p=R) (hc:ID 1048576 cls) (hp:p.length≤1048576) (ht:Cj p) (hl:BK p.length cls):CI Try.prog 151 [Un cls,ints p] (AB0 R):=by
 obtain⟨hc1,hc2⟩:=hc;refine BD (by kernel_rfl) Try.func151 rfl rfl rfl ?_;simp;refine Ab (Cm p hp) ?_;simp;refine AY [true,false,false,false,false,false,true,true] (fun i:List Int×Bool=>i.1.length=p.length∧Cj i.1∧(i.2=true→En cls i.1=R)∧(i.2=false→R=some i.1)) (fun i:List Int×Bool=>[(7,.d (.bool i.2))]) (fun i:List Int×Bool=>[(0,.arr 3 true (i.1.map (e1 Az)))]) (fun i:List Int×Bool=>2*CV i.1+(if i.2=true then 1 else 0)) (p,true) ?_ ?_ ?_
 · exact⟨rfl,ht,fun _=>hR,fun h=>by cases h⟩
 · exact⟨[0],by simp⟩
 rintro I S μ hI hS hμ ⟨q,ch⟩ ⟨hq,hqt,hct,hcf⟩;simp only at hq hqt hct hcf
 cases ch with
 | false =>
   have hR2:=hcf rfl;subst hR2;simp
 | true =>
   have hR2:=hct rfl;have hpr:=K5 (cls:=cls) (p:=q) (by rw[hq];exact hl) hqt;have hpf:=fun p' ch'=>Fy (cls:=cls) (p:=q) (p':=p') (ch:=false) (ch':=ch') (by rw[hq];exact hl) hqt;rw[hR2] at hpr;simp;refine AY [true,false,false,false,false,false,true,true,false,false,false,false,false,false,false,true,true,true] (fun i:Nat×List Int×Bool=>i.1≤cls.length∧i.2.1.length=p.length∧Cj i.2.1∧DA (cls.drop i.1) i.2.1 i.2.2=DA cls q false) (fun i:Nat×List Int×Bool=>[(7,.d (.bool i.2.2)),(17,.d (.int .i64 i.1))]) (fun i:Nat×List Int×Bool=>[(0,.arr 3 true (i.2.1.map (e1 Az)))]) (fun i:Nat×List Int×Bool=>cls.length - i.1) (0,q,false) ?_ ?_ ?_
   · exact⟨Nat.zero_le _,hq,hqt,rfl⟩
   · exact⟨[0],by simp⟩
   rintro I2 S2 μ2 hI2 hS2 hμ2 ⟨k,q2,ch2⟩ ⟨hk,hq2,hqt2,hps⟩;simp only at hk hq2 hqt2 hps;by_cases hlt:k<cls.length
   · have hx1:cls[k]? = some cls[k]:=zz0 hlt;have hL:(Aq cls[k]).length=1:=rfl;have w2:IntKind.i64.wrap ((k:Int)+1)=(k:Int)+1:=Af (by omega) (by omega);have hd:decide (k<cls.length)=true:=zz2 hlt;have hcl:=hc2 _ (AB7 hlt);have hli:∀ l∈cls[k],Cu q2.length l:=by rw[hq2];exact hl _ (AB7 hlt)
     rw[gF hx1] at hps;generalize cls[k]=c at *;have hcu:=bP c q2 hcl (by omega) hqt2 hli;have hum:=I9 (p:=q2) (cl:=c);generalize B8 q2 c=uc at *;obtain⟨u,cf⟩:=uc;simp only at hps hum hcu;simp[hd,hx1,hL,Aq];refine Ab (hcu) ?_;simp
     cases cf with
     | true =>
       rw[if_pos rfl] at hps;rw[←hps] at hpr;simp only at hpr;simp[hpr]
     | false =>
       rw[if_neg (by simp)] at hps;by_cases hu0:u=0
       · rw[if_pos hu0] at hps;subst hu0;simp[w2];exact Ae hI2 hS2 hμ2 (k+1,q2,ch2) ⟨by simp;omega,hq2,hqt2,hps⟩ (by simp;omega) ⟨[0],by simp⟩
       rw[if_neg hu0] at hps;have hul:Cu q2.length u:=hli u (hum hu0).1;have hts:=Dt hqt2 u;have hls:=CG q2 u;rcases C1 hul with ⟨m,hm,e⟩|⟨m,hm,e⟩
       · have hse:Co q2 u=q2.set m 1:=by rw[e];exact Em q2 m
         rw[hse] at hps hts hls;have hg:=getD_some hm;have w3:IntKind.i64.wrap (u - 1)=(m:Int):=by rw[Af (by omega) (by omega)];omega
         have hset:=Gz (q:=q2) (m:=m) (v:=1);generalize q2.set m 1=q3 at *;generalize q2.getD m 0=z0 at hg;simp[show 0<u by omega,show ¬ u<0 by omega,show ¬ u≤0 by omega,show 0≤u by omega,w3,hg,hset,w2];exact Ae hI2 hS2 hμ2 (k+1,q3,true) ⟨by simp;omega,by simp;omega,hts,hps⟩ (by simp;omega) ⟨[0],by simp⟩
       · have hse:Co q2 u=q2.set m (-1):=by rw[e];exact Da q2 m
         rw[hse] at hps hts hls;have hg:=getD_some hm;have w3:IntKind.i64.wrap (-u)=(m:Int)+1:=by rw[Af (by omega) (by omega)];omega
         have w4:IntKind.i64.wrap (m:Int)=(m:Int):=Af (by omega) (by omega);have hset:=Gz (q:=q2) (m:=m) (v:=-1);generalize q2.set m (-1)=q3 at *;generalize q2.getD m 0=z0 at hg;simp[show ¬ 0<u by omega,show u<0 by omega,show u≤0 by omega,show ¬ 0≤u by omega,w3,w4,hg,hset,w2];exact Ae hI2 hS2 hμ2 (k+1,q3,true) ⟨by simp;omega,by simp;omega,hts,hps⟩ (by simp;omega) ⟨[0],by simp⟩
   · have hk':k=cls.length:=by omega
     subst hk';rw[List.drop_length,DA] at hps;rw[←hps] at hpr;obtain⟨f1,f2,f3,f4,f5⟩:=hpf q2 ch2 hps.symm;simp[hlt];refine Ae hI hS hμ (q2,ch2) ⟨hq2,hqt2,fun h=>?_,fun h=>?_⟩ ?_ ⟨[0],by simp⟩
     · subst h;exact hpr.symm
     · subst h;exact hpr
     · cases ch2 with
       | true=>have:=f4 rfl rfl;simp;omega
       | false=>simp;omega
end Go.Proofs.Ytnjedabjbeipeaa
