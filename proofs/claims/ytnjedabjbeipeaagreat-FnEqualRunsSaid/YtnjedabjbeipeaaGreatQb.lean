/-
  Formulas, values, units and propagation, by abstract walks: both sides.
  Conditions: those typed in each theorem.
-/
import Derived.Test.YtnjedabjbeipeaaGreatNv
namespace Go.Proofs.YtnjedabjbeipeaaGreat
open Go.RowKit Go.ChangeShapes Go.WideShapes
set_option linter.unusedSimpArgs false
set_option linter.unusedVariables false
set_option maxRecDepth 100000
set_option maxHeartbeats 10000000
def KY (v:Int) (cl:List Int):Bool:=cl.all (GZ v)
def Ri (v:Int) (cls:List BT):Bool:=cls.all (CY v)
theorem Rt (cl:List Int) (v:Int) (hv:0≤v∧v≤400) (hl:cl.length≤1048576):Bx Tryz.prog 90 [ints cl,.d (.int .i64 v)] (.d (.bool (CY v cl))):=by
 have hB:CY v cl=(decide (cl.length≤400)&&KY v cl):=rfl;rw[hB];refine A5 (by kernel_rfl) Tryz.func90 rfl rfl rfl ?_;by_cases h4:cl.length≤400
 case neg=>simp[h4,show (400:Int)<cl.length by omega,show ¬ (cl.length:Int)≤400 by omega]
 have wn:IntKind.i64.wrap (-v)=-v:=Ad (by omega) (by omega);simp[show ¬ (400:Int)<cl.length by omega,show (cl.length:Int)≤400 by omega,h4];refine AB [false,true,false,false,false,false,false,false,false,false,true,true,true] (fun k:Nat=>k≤cl.length∧KY v (cl.take k)=true) (fun k:Nat=>[(12,.d (.int .i64 k))]) (fun k:Nat=>[]) (fun k:Nat=>cl.length - k) 0 ?_ ?_ ?_
 · exact⟨by omega,rfl⟩
 · exact⟨[],by simp⟩
 rintro I S μ hI hS hμ k ⟨hk,ha⟩;by_cases hlt:k<cl.length
 · have hx1:cl[k]? = some cl[k]:=zz0 hlt;have w2:IntKind.i64.wrap ((k:Int)+1)=(k:Int)+1:=Ad (by omega) (by omega);have hd:decide (k<cl.length)=true:=zz2 hlt;have hsn:KY v (cl.take (k+1))=(KY v (cl.take k)&&GZ v cl[k]):=C6 hx1;have hno:GZ v cl[k]=false→KY v cl=false:=EO hx1;have hlo:GZ v cl[k]=(!(cl[k]==0)&&DM cl[k] (-v) v):=rfl;generalize cl[k]=y at *;by_cases hy:y=0
   · have hz:=hno (by rw[hlo,hy];rfl);simp[hd,hx1,hy,hz]
   have hy2:(y==0)=false:=by simpa using hy
   simp[hd,hx1,hy,hy2,wn];refine Ab (E8 _ _ _) ?_;simp;rcases ABu (DM y (-v) v) with hr|hr
   · simp[hr,w2];exact Ae hI hS hμ (k+1) ⟨by omega,by rw[hsn,ha,hlo,hr,hy2];rfl⟩ (by omega) ⟨[],by simp⟩
   · have hz:=hno (by rw[hlo,hr];simp);simp[hr,hz]
 · have hk':k=cl.length:=by omega
   rw[hk',List.take_length] at ha;simp[hlt,ha]
theorem Rv (cl:List Int) (v:Int) (hv:0≤v∧v≤400) (hl:cl.length≤1048576):Bx Tryz.prog 85 [.d (.int .i64 v),ints cl] (.d (.bool (CY v cl))):=by
 have hB:CY v cl=(decide (cl.length≤400)&&KY v cl):=rfl;rw[hB];refine A5 (by kernel_rfl) Tryz.func85 rfl rfl rfl ?_;by_cases h4:cl.length≤400
 case neg=>simp[h4,show (400:Int)<cl.length by omega,show ¬ (cl.length:Int)≤400 by omega]
 have wn:IntKind.i64.wrap (-v)=-v:=Ad (by omega) (by omega);simp[show ¬ (400:Int)<cl.length by omega,show (cl.length:Int)≤400 by omega,h4];refine AB [true,true,false,false,false,true] (fun k:Nat=>k≤cl.length∧KY v (cl.take k)=true) (fun k:Nat=>[(5,.d (.int .i64 k))]) (fun k:Nat=>[]) (fun k:Nat=>cl.length - k) 0 ?_ ?_ ?_
 · exact⟨by omega,rfl⟩
 · exact⟨[],by simp⟩
 rintro I S μ hI hS hμ k ⟨hk,ha⟩;by_cases hlt:k<cl.length
 · have hx1:cl[k]? = some cl[k]:=zz0 hlt;have w2:IntKind.i64.wrap ((k:Int)+1)=(k:Int)+1:=Ad (by omega) (by omega);have hd:decide (k<cl.length)=true:=zz2 hlt;have hsn:KY v (cl.take (k+1))=(KY v (cl.take k)&&GZ v cl[k]):=C6 hx1;have hno:GZ v cl[k]=false→KY v cl=false:=EO hx1;have hlo:GZ v cl[k]=(!(cl[k]==0)&&DM cl[k] (-v) v):=rfl;generalize cl[k]=y at *;by_cases hy:y=0
   · have hz:=hno (by rw[hlo,hy];rfl);simp[hd,hx1,hy,hz]
   have hy2:(y==0)=false:=by simpa using hy
   simp[hd,hx1,hy,hy2,wn];refine Ab (EN _ _ _) ?_;simp;rcases ABu (DM y (-v) v) with hr|hr
   · simp[hr,w2];exact Ae hI hS hμ (k+1) ⟨by omega,by rw[hsn,ha,hlo,hr,hy2];rfl⟩ (by omega) ⟨[],by simp⟩
   · have hz:=hno (by rw[hlo,hr];simp);simp[hr,hz]
 · have hk':k=cl.length:=by omega
   rw[hk',List.take_length] at ha;simp[hlt,ha]
theorem XU (x:UY) (hx:VE 1048576 x):Bx Tryz.prog 60 [aU x] (.d (.bool (FX x.1 x.2))):=by
 obtain⟨v,cls⟩:=x;obtain⟨hx1',hx2⟩:=hx;have hB:FX v cls=(DM v 0 400&&decide (cls.length≤1600)&&Ri v cls):=rfl;simp only at hx1' hx2;simp only[hB];refine A5 (by kernel_rfl) Tryz.func60 rfl rfl rfl ?_;simp[Eo];refine Ab (E8 _ _ _) ?_;simp;rcases ABu (DM v 0 400) with hv|hv
 case inr=>simp[hv]
 have hv2:=AP.1 hv;by_cases h4:cls.length≤1600
 case neg=>simp[hv,h4,show (1600:Int)<cls.length by omega,show ¬ (cls.length:Int)≤1600 by omega]
 simp[hv,show ¬ (1600:Int)<cls.length by omega,show (cls.length:Int)≤1600 by omega,h4];refine AB [false,true,false,false,false,false,false,false,false,false,false,false,false,false,false,false,true,true,true] (fun k:Nat=>k≤cls.length∧Ri v (cls.take k)=true) (fun k:Nat=>[(18,.d (.int .i64 k))]) (fun k:Nat=>[]) (fun k:Nat=>cls.length - k) 0 ?_ ?_ ?_
 · exact⟨by omega,rfl⟩
 · exact⟨[0],by simp⟩
 rintro I S μ hI hS hμ k ⟨hk,ha⟩;by_cases hlt:k<cls.length
 · have hx1:cls[k]? = some cls[k]:=zz0 hlt;have hL:(Az cls[k]).length=1:=rfl;have w2:IntKind.i64.wrap ((k:Int)+1)=(k:Int)+1:=Ad (by omega) (by omega);have hd:decide (k<cls.length)=true:=zz2 hlt;have hsn:Ri v (cls.take (k+1))=(Ri v (cls.take k)&&CY v cls[k]):=C6 hx1;have hno:CY v cls[k]=false→Ri v cls=false:=EO hx1;have hcl:=hx2 _ (ABt hlt);generalize cls[k]=y at *;simp[hd,hx1,hL,Az];refine Ab (Rt y v hv2 hcl) ?_;simp;rcases ABu (CY v y) with hr|hr
   · simp[hr,w2];exact Ae hI hS hμ (k+1) ⟨by omega,by rw[hsn,ha,hr];rfl⟩ (by omega) ⟨[0],by simp⟩
   · have hz:=hno hr;simp[hr,hz]
 · have hk':k=cls.length:=by omega
   rw[hk',List.take_length] at ha;simp[hlt,ha]
theorem Xh (x:UY) (hx:VE 1048576 x):Bx Tryz.prog 44 [aU x] (.d (.bool (FX x.1 x.2))):=by
 obtain⟨v,cls⟩:=x;obtain⟨hx1',hx2⟩:=hx;have hB:FX v cls=(DM v 0 400&&decide (cls.length≤1600)&&Ri v cls):=rfl;simp only at hx1' hx2;simp only[hB];refine A5 (by kernel_rfl) Tryz.func44 rfl rfl rfl ?_;simp[Eo];refine Ab (EN _ _ _) ?_;simp;rcases ABu (DM v 0 400) with hv|hv
 case inr=>simp[hv]
 have hv2:=AP.1 hv;by_cases h4:cls.length≤1600
 case neg=>simp[hv,h4,show (1600:Int)<cls.length by omega,show ¬ (cls.length:Int)≤1600 by omega]
 simp[hv,show ¬ (1600:Int)<cls.length by omega,show (cls.length:Int)≤1600 by omega,h4];refine AB [false,true,false,true] (fun k:Nat=>k≤cls.length∧Ri v (cls.take k)=true) (fun k:Nat=>[(3,.d (.int .i64 k))]) (fun k:Nat=>[]) (fun k:Nat=>cls.length - k) 0 ?_ ?_ ?_
 · exact⟨by omega,rfl⟩
 · exact⟨[0],by simp⟩
 rintro I S μ hI hS hμ k ⟨hk,ha⟩;by_cases hlt:k<cls.length
 · have hx1:cls[k]? = some cls[k]:=zz0 hlt;have hL:(Az cls[k]).length=1:=rfl;have w2:IntKind.i64.wrap ((k:Int)+1)=(k:Int)+1:=Ad (by omega) (by omega);have hd:decide (k<cls.length)=true:=zz2 hlt;have hsn:Ri v (cls.take (k+1))=(Ri v (cls.take k)&&CY v cls[k]):=C6 hx1;have hno:CY v cls[k]=false→Ri v cls=false:=EO hx1;have hcl:=hx2 _ (ABt hlt);generalize cls[k]=y at *;simp[hd,hx1,hL,Az];refine⟨by kernel_rfl,?_⟩;refine Ab (Rv y v hv2 hcl) ?_;simp;rcases ABu (CY v y) with hr|hr
   · simp[hr,w2];exact Ae hI hS hμ (k+1) ⟨by omega,by rw[hsn,ha,hr];rfl⟩ (by omega) ⟨[0],by simp⟩
   · have hz:=hno hr;simp[hr,hz]
 · have hk':k=cls.length:=by omega
   rw[hk',List.take_length] at ha;simp[hlt,ha]
theorem E2 {n:Nat} {l:Int} (h:Ep n l):(∃ m:Nat,m<n∧l=(m:Int)+1)∨(∃ m:Nat,m<n∧l=-((m:Int)+1)):=by
 obtain⟨h1,h2,h3⟩:=h;by_cases hp:0<l
 · exact .inl ⟨(l - 1).toNat,by omega,by omega⟩
 · exact .inr ⟨(-l - 1).toNat,by omega,by omega⟩
theorem OX {p:List Int} {m:Nat}:DV p ((m:Int)+1)=p.getD m 0:=by
 unfold DV;rw[if_neg (by omega)]
 congr 1
 omega
theorem O0 {p:List Int} {m:Nat}:DV p (-((m:Int)+1))=-(p.getD m 0):=by
 unfold DV;rw[if_pos (by omega)]
 congr 2
 omega
theorem getD_some {p:List Int} {m:Nat} (h:m<p.length):p[m]? = some (p.getD m 0):=by
 rw[List.getD_eq_getElem?_getD,zz0 h];rfl
theorem Zo {p:List Int} (ht:Dj p) (m:Nat):-1≤p.getD m 0∧p.getD m 0≤1:=by
 rw[List.getD_eq_getElem?_getD]
 cases h:p[m]? with
 | none=>simp
 | some x=>exact ht x (zz6 h)
theorem cW (p:List Int) (l:Int) (hp:p.length≤1048576) (ht:Dj p) (hl:Ep p.length l):Bx Tryz.prog 115 [ints p,.d (.int .i64 l)] (.d (.int .i64 (DV p l))):=by
 refine A5 (by kernel_rfl) Tryz.func115 rfl rfl rfl ?_;rcases E2 hl with ⟨m,hm,e⟩|⟨m,hm,e⟩
 · have hg:=getD_some hm;have w1:IntKind.i64.wrap (l - 1)=(m:Int):=by rw[Ad (by omega) (by omega)];omega
   have hv:DV p l=p.getD m 0:=by rw[e];exact OX
   rw[hv];generalize p.getD m 0=q at *;simp[show ¬ l<0 by omega,w1,hg]
 · have hg:=getD_some hm;have htr:=Zo ht m;have w0:IntKind.i64.wrap (-l)=(m:Int)+1:=by rw[Ad (by omega) (by omega)];omega
   have w1:IntKind.i64.wrap (m:Int)=(m:Int):=Ad (by omega) (by omega);have hv:DV p l=-(p.getD m 0):=by rw[e];exact O0
   rw[hv];generalize p.getD m 0=q at *;have w3:IntKind.i64.wrap (-q)=-q:=Ad (by omega) (by omega);simp[show l<0 by omega,w0,w1,hg,w3]
theorem iA (p:List Int) (l:Int) (hp:p.length≤1048576) (ht:Dj p) (hl:Ep p.length l):Bx Tryz.prog 105 [ints p,.d (.int .i64 l)] (.d (.int .i64 (DV p l))):=by
 refine A5 (by kernel_rfl) Tryz.func105 rfl rfl rfl ?_;rcases E2 hl with ⟨m,hm,e⟩|⟨m,hm,e⟩
 · have hg:=getD_some hm;have w1:IntKind.i64.wrap (l - 1)=(m:Int):=by rw[Ad (by omega) (by omega)];omega
   have hv:DV p l=p.getD m 0:=by rw[e];exact OX
   rw[hv];generalize p.getD m 0=q at *;simp[show 0<l by omega,w1,hg]
 · have hg:=getD_some hm;have htr:=Zo ht m;have w0:IntKind.i64.wrap (-l)=(m:Int)+1:=by rw[Ad (by omega) (by omega)];omega
   have w1:IntKind.i64.wrap (m:Int)=(m:Int):=Ad (by omega) (by omega);have hv:DV p l=-(p.getD m 0):=by rw[e];exact O0
   rw[hv];generalize p.getD m 0=q at *;have w3:IntKind.i64.wrap (-q)=-q:=Ad (by omega) (by omega);simp[show ¬ 0<l by omega,w0,w1,hg,w3]
theorem Cw (xs:List Int) (h:xs.length≤1048576):Bx Tryz.prog 87 [.d (Dh 3 (e1 AC) xs)] (.d (Dh 3 (e1 AC) xs)):=by
 refine A5 (by kernel_rfl) Tryz.func87 rfl rfl rfl ?_;simp;refine Ak As rfl (by simp) rfl (by simp) (by simp) (by first | (simp;done)|(simp;omega)) (by simp[AR,AL]) ?_;simp
theorem Y9 {cl p:List Int} {k:Nat} {x u:Int} (hx:cl[k]? = some x):DQ p (cl.drop k) u=if DV p x=1 then (0,false) else if DV p x=0 then (if u≠0∧u≠x then (0,false) else DQ p (cl.drop (k+1)) x) else DQ p (cl.drop (k+1)) u:=by
 obtain⟨hk,rfl⟩:=zz1.1 hx;rw[List.drop_eq_getElem_cons hk,DQ]
theorem ZO (cl p:List Int) (hc:cl.length≤1048576) (hp:p.length≤1048576) (ht:Dj p) (hl:∀ l∈cl,Ep p.length l):Bx Tryz.prog 106 [ints cl,ints p] (.tup [.d (.int .i64 (CU p cl).1),.d (.bool (CU p cl).2)]):=by
 refine A5 (by kernel_rfl) Tryz.func106 rfl rfl rfl ?_;simp;refine AB [false,true,false,false,false,false,true,false,false,true,true,true] (fun i:Nat×Int=>i.1≤cl.length∧DQ p (cl.drop i.1) i.2=CU p cl) (fun i:Nat×Int=>[(6,.d (.int .i64 i.2)),(11,.d (.int .i64 i.1))]) (fun i:Nat×Int=>[]) (fun i:Nat×Int=>cl.length - i.1) (0,0) ?_ ?_ ?_
 · exact⟨Nat.zero_le _,by simp[CU]⟩
 · exact⟨[],by simp⟩
 rintro I S μ hI hS hμ ⟨k,u⟩ ⟨hk,hs⟩;simp only at hk hs;by_cases hlt:k<cl.length
 · have hx1:cl[k]? = some cl[k]:=zz0 hlt;have w2:IntKind.i64.wrap ((k:Int)+1)=(k:Int)+1:=Ad (by omega) (by omega);have hd:decide (k<cl.length)=true:=zz2 hlt;have hli:=hl _ (ABt hlt);rw[Y9 hx1] at hs;generalize cl[k]=x at *;have hc1:=cW p x hp ht hli;generalize DV p x=v at *;generalize CU p cl=R at *;simp[hd,hx1];refine Ab (hc1) ?_;simp;by_cases h1:v=1
   · rw[if_pos h1] at hs;subst h1;simp[←hs]
   rw[if_neg h1] at hs;have h1':(v==1)=false:=by simpa using h1
   by_cases h0:v=0
   case neg =>
    rw[if_neg h0] at hs;simp[h1,h1',h0,show (v==0)=false by simpa using h0,w2];exact Ae hI hS hμ (k+1,u) ⟨by simp;omega,hs⟩ (by simp;omega) ⟨[],by simp⟩
   rw[if_pos h0] at hs;subst h0;by_cases hu:u=0
   · rw[if_neg (by simp[hu])] at hs;simp[h1,h1',hu,w2];exact Ae hI hS hμ (k+1,x) ⟨by simp;omega,hs⟩ (by simp;omega) ⟨[],by simp⟩
   by_cases hux:u=x
   · rw[if_neg (by simp[hux])] at hs;subst hux;simp[h1,h1',hu,show (u != 0)=true by simpa using hu,w2];exact Ae hI hS hμ (k+1,u) ⟨by simp;omega,hs⟩ (by simp;omega) ⟨[],by simp⟩
   · rw[if_pos ⟨hu,hux⟩] at hs;simp[h1,h1',hu,show (u != 0)=true by simpa using hu,hux,show (u != x)=true by simpa using hux,←hs]
 · have hk':k=cl.length:=by omega
   subst hk';rw[List.drop_length,DQ] at hs;generalize CU p cl=R at *;simp[hlt,←hs]
theorem V1 {cls:List BT} {k:Nat} {x:BT} (hx:cls[k]? = some x) (q:List Int) (b:Bool) :
 Dt (cls.drop k) q b=if (CU q x).2=true then none else if (CU q x).1=0 then Dt (cls.drop (k+1)) q b else Dt (cls.drop (k+1)) (Dg q (CU q x).1) true:=eM hx q b
abbrev vT (R:Option (List Int)):X:=.tup [ints (R.getD []),.d (.bool R.isSome)]
theorem El {q:List Int} {m:Nat} {v:Int}:(q.map (e1 AC)).set m [.int .i64 v]=(q.set m v).map (e1 AC):=by rw[List.map_set];rfl
theorem Hg (cls:List BT) (p:List Int) (R:Option (List Int)) (hR:ET cls p=R) (hc:Wp 1048576 cls) (hp:p.length≤1048576) (ht:Dj p) (hl:CA p.length cls):Bx Tryz.prog 91 [US cls,ints p] (vT R):=by
 obtain⟨hc1,hc2⟩:=hc;refine A5 (by kernel_rfl) Tryz.func91 rfl rfl rfl ?_;simp;refine Ab (Cw p hp) ?_;simp;refine AB [true,false,false,false,false,false,true,true] (fun i:List Int×Bool=>i.1.length=p.length∧Dj i.1∧(i.2=true→ET cls i.1=R)∧(i.2=false→R=some i.1)) (fun i:List Int×Bool=>[(7,.d (.bool i.2))]) (fun i:List Int×Bool=>[(0,.arr 3 true (i.1.map (e1 AC)))]) (fun i:List Int×Bool=>2*Eh i.1+(if i.2=true then 1 else 0)) (p,true) ?_ ?_ ?_
 · exact⟨rfl,ht,fun _=>hR,fun h=>by cases h⟩
 · exact⟨[0],by simp⟩
 rintro I S μ hI hS hμ ⟨q,ch⟩ ⟨hq,hqt,hct,hcf⟩;simp only at hq hqt hct hcf
 cases ch with
 | false =>
   have hR2:=hcf rfl;subst hR2;simp
 | true =>
   have hR2:=hct rfl;have hpr:=Jd (cls:=cls) (p:=q) (by rw[hq];exact hl) hqt;have hpf:=fun p' ch'=>EH (cls:=cls) (p:=q) (p':=p') (ch:=false) (ch':=ch') (by rw[hq];exact hl) hqt;rw[hR2] at hpr;simp;refine AB [true,false,false,false,false,false,true,true,false,false,false,false,false,false,false,true,true,true] (fun i:Nat×List Int×Bool=>i.1≤cls.length∧i.2.1.length=p.length∧Dj i.2.1∧Dt (cls.drop i.1) i.2.1 i.2.2=Dt cls q false) (fun i:Nat×List Int×Bool=>[(7,.d (.bool i.2.2)),(17,.d (.int .i64 i.1))]) (fun i:Nat×List Int×Bool=>[(0,.arr 3 true (i.2.1.map (e1 AC)))]) (fun i:Nat×List Int×Bool=>cls.length - i.1) (0,q,false) ?_ ?_ ?_
   · exact⟨Nat.zero_le _,hq,hqt,rfl⟩
   · exact⟨[0],by simp⟩
   rintro I2 S2 μ2 hI2 hS2 hμ2 ⟨k,q2,ch2⟩ ⟨hk,hq2,hqt2,hps⟩;simp only at hk hq2 hqt2 hps;by_cases hlt:k<cls.length
   · have hx1:cls[k]? = some cls[k]:=zz0 hlt;have hL:(Az cls[k]).length=1:=rfl;have w2:IntKind.i64.wrap ((k:Int)+1)=(k:Int)+1:=Ad (by omega) (by omega);have hd:decide (k<cls.length)=true:=zz2 hlt;have hcl:=hc2 _ (ABt hlt);have hli:∀ l∈cls[k],Ep q2.length l:=by rw[hq2];exact hl _ (ABt hlt)
     rw[V1 hx1] at hps;generalize cls[k]=c at *;have hcu:=ZO c q2 hcl (by omega) hqt2 hli;have hum:=Hx (p:=q2) (cl:=c);generalize CU q2 c=uc at *;obtain⟨u,cf⟩:=uc;simp only at hps hum hcu;simp[hd,hx1,hL,Az];refine Ab (hcu) ?_;simp
     cases cf with
     | true =>
       rw[if_pos rfl] at hps;rw[←hps] at hpr;simp only at hpr;simp[hpr]
     | false =>
       rw[if_neg (by simp)] at hps;by_cases hu0:u=0
       · rw[if_pos hu0] at hps;subst hu0;simp[w2];exact Ae hI2 hS2 hμ2 (k+1,q2,ch2) ⟨by simp;omega,hq2,hqt2,hps⟩ (by simp;omega) ⟨[0],by simp⟩
       rw[if_neg hu0] at hps;have hul:Ep q2.length u:=hli u (hum hu0).1;have hts:=EY hqt2 u;have hls:=Ed q2 u;rcases E2 hul with ⟨m,hm,e⟩|⟨m,hm,e⟩
       · have hse:Dg q2 u=q2.set m 1:=by rw[e];exact Ee q2 m
         rw[hse] at hps hts hls;have hg:=getD_some hm;have w3:IntKind.i64.wrap (u - 1)=(m:Int):=by rw[Ad (by omega) (by omega)];omega
         have hset:=El (q:=q2) (m:=m) (v:=1);generalize q2.set m 1=q3 at *;generalize q2.getD m 0=z0 at hg;simp[show 0<u by omega,show ¬ u<0 by omega,show ¬ u≤0 by omega,show 0≤u by omega,w3,hg,hset,w2];exact Ae hI2 hS2 hμ2 (k+1,q3,true) ⟨by simp;omega,by simp;omega,hts,hps⟩ (by simp;omega) ⟨[0],by simp⟩
       · have hse:Dg q2 u=q2.set m (-1):=by rw[e];exact Ef q2 m
         rw[hse] at hps hts hls;have hg:=getD_some hm;have w3:IntKind.i64.wrap (-u)=(m:Int)+1:=by rw[Ad (by omega) (by omega)];omega
         have w4:IntKind.i64.wrap (m:Int)=(m:Int):=Ad (by omega) (by omega);have hset:=El (q:=q2) (m:=m) (v:=-1);generalize q2.set m (-1)=q3 at *;generalize q2.getD m 0=z0 at hg;simp[show ¬ 0<u by omega,show u<0 by omega,show u≤0 by omega,show ¬ 0≤u by omega,w3,w4,hg,hset,w2];exact Ae hI2 hS2 hμ2 (k+1,q3,true) ⟨by simp;omega,by simp;omega,hts,hps⟩ (by simp;omega) ⟨[0],by simp⟩
   · have hk':k=cls.length:=by omega
     subst hk';rw[List.drop_length,Dt] at hps;rw[←hps] at hpr;obtain⟨f1,f2,f3,f4,f5⟩:=hpf q2 ch2 hps.symm;simp[hlt];refine Ae hI hS hμ (q2,ch2) ⟨hq2,hqt2,fun h=>?_,fun h=>?_⟩ ?_ ⟨[0],by simp⟩
     · subst h;exact hpr.symm
     · subst h;exact hpr
     · cases ch2 with
       | true=>have:=f4 rfl rfl;simp;omega
       | false=>simp;omega
end Go.Proofs.YtnjedabjbeipeaaGreat
