/-
  Values of nodes over a cut, tables of cuts, places of nodes in a network of tables. Plain lemmas.
  Conditions: those typed in each theorem.
-/
import Derived.Test.YtnjedabjbeipeaaQf
import Derived.Test.YtnjedabjbeipeaaRt
namespace Go.Proofs.Ytnjedabjbeipeaa
open Go.RowKit Go.ChangeShapes Go.WideShapes
set_option linter.unusedSimpArgs false
set_option linter.unusedVariables false
set_option maxRecDepth 100000
set_option maxHeartbeats 10000000
section
attribute [local simp] Dp EZ
def MW (i k:Int):List Int→Nat→Option Int
 | [],_=>none
 | y::c,j=>if y=k then some (GF i j) else MW i k c (j+1)
theorem MV {i k:Int}:∀ {c:List Int} {j:Nat},k∉c→MW i k c j=none
 | [],_,_=>rfl
 | y::c,j,h=>by
   simp only[List.mem_cons,not_or] at h;unfold MW;rw[if_neg (fun e=>h.1 e.symm)];exact MV h.2
theorem Ye {i k:Int}:∀ {c:List Int} {j p:Nat},c.Nodup→c[p]? = some k→MW i k c j=some (GF i (j+p))
 | [],_,_,_,h=>by simp at h
 | y::c,j,0,_,h=>by
   simp only[List.getElem?_cons_zero,Option.some.injEq] at h;unfold MW;rw[if_pos h];rfl
 | y::c,j,p+1,hn,h=>by
   simp only[List.getElem?_cons_succ] at h;rw[List.nodup_cons] at hn;unfold MW;rw[if_neg (fun e=>hn.1 (by rw[e];exact zz6 h)),Ye hn.2 h]
   congr 2
   omega
def mV (x:AB) (c:List Int) (i:Int) (lv:List Int) (k:Nat):Int :=
 match MW i k c 0 with
 | some b=>b
 | none=>if Aa x≤k then AF lv (Al x k).1*AF lv (Al x k).2 else 0
def cF (x:AB) (c:List Int) (i:Int):Nat→List Int
 | 0=>List.replicate (AR x) 0
 | k+1=>(cF x c i k).set k (mV x c i (cF x c i k) k)
def HL (x:AB) (c:List Int) (i:Int) (k:Nat):Int:=Av (cF x c i (k+1)) k
theorem SX {x:AB} {c:List Int} {i:Int}:∀ k,(cF x c i k).length=AR x
 | 0=>by simp[cF]
 | k+1=>by simp[cF,SX k]
theorem YP {i k:Int} {b:Int}:∀ {c:List Int} {j:Nat},MW i k c j=some b→0≤b∧b≤1
 | [],_,h=>by simp[MW] at h
 | y::c,j,h=>by
   unfold MW at h;split at h
   · cases h;exact Qg _ _
   · exact YP h
theorem oQ (x:AB) (c:List Int) (i:Int) (lv:List Int) (k:Nat):0≤mV x c i lv k∧mV x c i lv k≤1:=by
 unfold mV;split
 · rename_i h;exact YP h
 · split
   · have a:=DY lv (Al x k).1;have b:=DY lv (Al x k).2;rcases D6 a with h|h<;>rcases D6 b with g|g<;>rw[h,g]<;>omega
   · omega
theorem O4 {lv:List Int} {k j:Nat} {v:Int} (hk:k<lv.length):Av (lv.set k v) j=if j=k then v else Av lv j:=by
 unfold Av;rw[Int.toNat_natCast,List.getElem?_set];by_cases h:j=k
 · subst h;simp[hk]
 · rw[if_neg (fun e=>h e.symm),if_neg h]
theorem P0 {x:AB} {c:List Int} {i:Int} {k:Nat}:∀ n,k<n→n≤AR x→Av (cF x c i n) k=HL x c i k
 | 0,h,_=>by omega
 | n+1,h,hn=>by
   by_cases e:k=n
   · subst e;rfl
   · show Av ((cF x c i n).set n _) k=_;rw[O4 (by rw[SX];omega),if_neg e];exact P0 n (by omega) (by omega)
theorem Qt {x:AB} {c:List Int} {i:Int} {k:Nat} (hk:k<AR x):HL x c i k=mV x c i (cF x c i k) k:=by
 show Av ((cF x c i k).set k _) k=_;rw[O4 (by rw[SX];omega),if_pos rfl]
theorem PY {x:AB} {c:List Int} {i:Int} {k:Nat} (hk:k<AR x):0≤HL x c i k∧HL x c i k≤1:=by rw[Qt hk];exact oQ _ _ _ _ _
theorem nD {x:AB} {c:List Int} {i:Int} {k p:Nat} (hk:k<AR x) (hn:c.Nodup) (h:c[p]? = some (k:Int)):HL x c i k=GF i p:=by
 rw[Qt hk,mV,Ye hn h,Nat.zero_add]
theorem Za {x:AB} {c:List Int} {i:Int} {k:Nat} (hk:k<AR x) (h:(k:Int)∉c) (hf:k<Aa x):HL x c i k=0:=by
 rw[Qt hk,mV,MV h];show (if Aa x≤k then _ else (0:Int))=0;rw[if_neg (by omega)]
theorem YH {x:AB} {c:List Int} {i:Int} {k:Nat} (hok:Aj x=true) (hk:k<AR x) (h:(k:Int)∉c) (hf:Aa x≤k):HL x c i k=((HL x c i (B2 x k)+(Al x k).1 % 2) % 2)*((HL x c i (B7 x k)+(Al x k).2 % 2) % 2):=by
 obtain⟨-,-,-,a3,a4,a5,a6⟩:=Cy hok hf hk;rw[Qt hk,mV,MV h];show (if Aa x≤k then AF (cF x c i k) (Al x k).1*AF (cF x c i k) (Al x k).2 else (0:Int))=_;rw[if_pos hf];unfold AF;rw[a3,a4,P0 k a5 (by omega),P0 k a6 (by omega)]
def D2 (x:AB) (c:List Int) (i:Int):Nat→Nat→List Int→List Int
 | 0,_,m=>m
 | n+1,v,m=>if (v:Int)∈c∨v<Aa x∨Av m v≠0 then m else (D2 x c i n (B7 x v) (D2 x c i n (B2 x v) m)).set v (1+HL x c i v)
def SJ (x:AB) (c:List Int) (i:Int) (m:List Int):Prop:=m.length=AR x∧∀ v:Nat,Av m v=0∨Av m v=1+HL x c i v
theorem L0 {x:AB} {c:List Int} {i:Int} (hok:Aj x=true):∀ (n v:Nat) (m:List Int),v<AR x→SJ x c i m→SJ x c i (D2 x c i n v m)
 | 0,_,_,_,h=>h
 | n+1,v,m,hv,h=>by
   unfold D2;split
   · exact h
   · rename_i hc;simp only[not_or] at hc;obtain⟨-,-,-,-,-,a5,a6⟩:=Cy hok (v:=v) (by omega) hv;have h1:=L0 hok n (B7 x v) _ (by omega) (L0 hok n (B2 x v) m (by omega) h);refine⟨by rw[ACh];exact h1.1,fun u=>?_⟩;rw[O4 (by rw[h1.1];exact hv)];split
     · rename_i e;subst e;exact .inr rfl
     · exact h1.2 u
theorem fK {x:AB} {c:List Int} {i:Int}:SJ x c i (List.replicate (AR x) 0):=by
 refine⟨by simp,fun v=>.inl ?_⟩;unfold Av;rw[List.getElem?_replicate];split<;>rfl
def Vc (x:AB) (c:List Int) (v:Nat):List Int:=(List.range (2 ^ c.length)).map fun i:Nat=>HL x c i v
noncomputable def Ws (x:AB) (c:List Int) (v:Nat):Int:=BP (Vc x c v)
noncomputable def jY (x:AB) (c:List Int) (v:Nat):Int:=BP ((Vc x c v).map fun b=>1 - b)
theorem LM {x:AB} {c:List Int} {v:Nat}:(Vc x c v).length=2 ^ c.length:=by simp[Vc]
theorem eP {x:AB} {c:List Int} {v i:Nat} (h:i<2 ^ c.length):(Vc x c v)[i]? = some (HL x c i v):=by
 unfold Vc;rw[ACF,ACa h];rfl
theorem Mr {x:AB} {c:List Int} {v:Nat} (hv:v<AR x):Cq (Vc x c v):=FY fun i _=>PY hv
theorem Rt {vs:List Int}:∀ k,k≤vs.length→Ck (vs.map fun b=>1 - b) k=2 ^ k - 1 - Ck vs k
 | 0,_=>by simp[Ck]
 | k+1,h=>by
   have ih:=Rt (vs:=vs) k (by omega);have hk:vs[k]? = some vs[k]:=zz0 (by omega);have hp:(2:Int) ^ (k+1)=2 ^ k*2:=Int.pow_succ 2 k;unfold Ck;rw[ACF,hk,ih,hp];simp only[Option.map_some,Option.getD_some,Int.sub_mul];omega
theorem oS {x:AB} {c:List Int} {v:Nat}:jY x c v=2 ^ (2 ^ c.length) - 1 - Ws x c v:=by
 unfold jY Ws BP;rw[ACH,Rt _ (Nat.le_refl _),LM]
theorem Rk {vs:List Int} (hb:Cq vs) {i:Nat} {b:Int} (hi:vs[i]? = some b):∀ n,i<n→Ck vs n / 2 ^ i % 2=b
 | 0,h=>by omega
 | n+1,h=>by
   have hv:=hb b (zz6 hi);have hp:(0:Int)<2 ^ i:=Int.pow_pos (by omega);by_cases e:i=n
   · subst e;have hl:=Iq hb i;unfold Ck;rw[hi,Option.getD_some,Int.add_mul_ediv_right _ _ (by omega),Int.ediv_eq_zero_of_lt hl.1 hl.2];omega
   · have ih:=Rk hb hi n (by omega);obtain⟨d,hd⟩:∃ d,n=i+1+d:=⟨n - (i+1),by omega⟩
     have h2:(vs[n]?).getD 0*2 ^ n=((vs[n]?).getD 0*2 ^ d*2)*2 ^ i:=by
      rw[hd,Int.pow_add,Int.pow_succ];simp only[Int.mul_assoc,Int.mul_comm,Int.mul_left_comm]
     unfold Ck;rw[h2,Int.add_mul_ediv_right _ _ (by omega)];omega
end
theorem fX {n:Nat} (h:n≤4):gO n=2 ^ (2 ^ n) - 1:=by
 have:n=0∨n=1∨n=2∨n=3∨n=4:=by omega
 rcases this with rfl|rfl|rfl|rfl|rfl<;>decide
theorem oW {x:AB} {c:List Int} {v:Nat} (hv:v<AR x) (h:c.length≤4):Dg c.length (Ws x c v)=true∧Dg c.length (jY x c v)=true:=by
 have h1:=Iq (Mr (c:=c) hv) (2 ^ c.length);have e:Ws x c v=Ck (Vc x c v) (2 ^ c.length):=by unfold Ws BP;rw[LM]
 have h2:=oS (x:=x) (c:=c) (v:=v);have hf:=fX h;rw[←e] at h1;unfold Dg;constructor
 · rw[Bool.and_eq_true,AN,AN,hf];omega
 · rw[Bool.and_eq_true,AN,AN,hf,h2];omega
theorem Ke {a:List Bool} {m:Nat} {b:Bool} (h:a[m]? = some b):Jh a ((m:Int)+1)=b:=by
 unfold Jh;rw[if_pos (by omega),show ((m:Int)+1 - 1).toNat=m by omega,h]
 cases b<;>rfl
theorem JN {a:List Bool} {m:Nat} {b:Bool} (h:a[m]? = some b):Jh a (-((m:Int)+1))=!b:=by
 unfold Jh;rw[if_neg (by omega),if_pos (by omega),show (- -((m:Int)+1) - 1).toNat=m by omega,h]
 cases b<;>rfl
theorem UC {P:Program} {f:FuncId} {xs ys:List V} {t t':TypeId} {sl sl':List Ag} {r:V} (h:BS P f (xs++.d (.sl t [])::ys) sl r sl'):BS P f (xs++.nil t'::ys) sl r sl':=by
 refine⟨h.1,h.2.1,fun w φ Fs R hR vs hm hl hv=>h.2.2 w φ Fs R hR vs hm (by simpa using hl) fun i x v hx hv'=>?_⟩;by_cases hi:i=xs.length
 · subst hi;simp at hx;subst hx;have:=hv xs.length (.nil t') v (by simp) hv'
   cases this
   exact .d (.nil _ _ _)
 · refine hv i x v ?_ hv';rw[←hx];rcases Nat.lt_or_ge i xs.length with h'|h'
   · rw[zz4 h',zz4 h']
   · obtain⟨j,rfl⟩:∃ j,i=xs.length+(j+1):=⟨i - xs.length - 1,by omega⟩;simp[zz5]
def Lr (q:List Int):List Bool:=q.map fun x=>x==1
def Eb (v:Int) (cls:List BB) (B:Int):Int×List Bool×List BB :=
 if Fc v cls=true∧rng B 1 600=true then
  (fun r:Js=>if r.code=1 then (1,Lr r.model,[]) else if r.code=2 then (2,[],r.pf) else (3,[],[])) (C2 cls B.toNat B.toNat (List.replicate v.toNat 0) [] [])
 else (0,[],[])
abbrev ABz (r:Int×List Bool×List BB):X:=.tup [.d (.int .i64 r.1),.d (B3 4 (e1 EV) r.2.1),Un r.2.2]
def Ue (k s:Nat):V:=if k=0 then .nil 4 else .ref s
def NJ (k:Nat) (xs:List Bool) (sl:List Ag):List Ag:=if k=0 then sl else sl++[.arr 4 true (xs.map (e1 EV))]
theorem Zr {q:List Int} {k:Nat} {x:Int} (hx:q[k]? = some x):Lr (q.take (k+1))=Lr (q.take k)++[x==1]:=by
 unfold Lr;rw[Bh hx,ACX];rfl
theorem OY (q:List Int):(Lr q).length=q.length:=by simp[Lr]
theorem WG (x:Xr) (B:Int) (hx:Yy 1048576 x):CI Try.prog 75 [cQ x,.d (.int .i64 B)] (ABz (Eb x.1 x.2 B)):=by
 obtain⟨v,cls⟩:=x;have hB:Eb v cls B=Eb v cls B:=rfl
 conv at hB=>lhs;unfold Eb
 simp only;generalize Eb v cls B=R at *;refine E1 (by kernel_rfl) Try.func75 rfl rfl rfl ?_;simp[FP];refine Ab (Qv (v,cls) hx) ?_;simp
 cases hok:Fc v cls with
 | false =>
   rw[hok] at hB;simp only[Bool.false_eq_true,false_and,if_false] at hB;subst hB;simp[hok]
 | true =>
 simp[hok];refine Ab (CU _ _ _) ?_;simp;rcases ACS (rng B 1 600) with hr|hr
 case inr =>
  rw[hok,hr] at hB;simp only[Bool.false_eq_true,and_false,if_false] at hB;subst hB;simp[hr]
 rw[hok,hr] at hB;simp only[and_self,if_true] at hB;have hr2:=AN.1 hr;have hv4:=GL hok;obtain⟨n,rfl⟩:∃ n:Nat,v=n:=⟨v.toNat,by omega⟩;obtain⟨b,rfl⟩:∃ b:Nat,B=b:=⟨B.toNat,by omega⟩;have hci:BK n cls:=ET hok;have hcc:=Uh n cls b (by omega) (by omega) hx hci b b (List.replicate n 0) [] (List.replicate n 0) [] (Nat.le_refl _) (Int.le_refl _) (by simp) (FZ n) (.inl ⟨rfl,rfl⟩) (by simp) (by simp;omega) (by simp;omega) (by simp);have hsf:=F0 hci b b (List.replicate n 0) [] [] (by simp) (FZ n);simp only[Int.toNat_natCast] at hB;generalize C2 cls b b (List.replicate n 0) [] []=r at *;obtain⟨f1,f2,f3,f4⟩:=hsf;simp[hr,show (0:Int)≤n by omega,show (n:Int)≤1099511627776 by omega];have hcn:=UC (xs:=[.ptr 0 0]) (t':=0) hcc;simp only[List.cons_append,List.nil_append,B4,if_true] at hcn;by_cases h1:r.code=1
 · have hR2:R=(1,Lr r.model,[]):=by rw[←hB,if_pos h1]
   subst hR2;simp only[AA,Bs,h1,if_true,if_false,show ((1:Int)=2)=False by simp] at hcn;refine Ac (hcn) [2] [1] (by simp) ?_;simp;have hml:=(f4 h1).1;refine As [false,false,false,false,false,false,false,false,true,true,false,false,false,false,false,false,false,false,false,false,false,false,false,false,false,false,false,false,false,false,false,false,false,false,false,true,true,true] (fun k:Nat=>k≤r.model.length) (fun k:Nat=>[(9,Ue k 3),(37,.d (.int .i64 k))]) (fun k:Nat=>NJ k (Lr (r.model.take k))) (fun k:Nat=>r.model.length - k) 0 ?_ ?_ ?_
   · simp
   · exact⟨[0,1,2],by simp[Ue,NJ]⟩
   rintro I Z μ hI hZ hμ k hk;by_cases hlt:k<r.model.length
   · have hx1:r.model[k]? = some r.model[k]:=zz0 hlt;have w2:IntKind.i64.wrap ((k:Int)+1)=(k:Int)+1:=Af (by omega) (by omega);have hd:decide (k<r.model.length)=true:=zz2 hlt;have hn:=Zr hx1;have hl:(Lr (r.model.take k)).length=k:=by rw[OY,ACL];omega
     generalize r.model[k]=y at *;generalize Lr (r.model.take k)=ms at *;by_cases hk0:k=0
     · subst hk0;have hm:ms=[]:=zz7 hl;subst hm;simp[Ue,NJ,hd,hx1];refine Aw Vv rfl (by simp) rfl (by simp) (by simp) (by first | (simp;done)|(simp;omega)) (by simp[Bp,A4]) ?_;simp[w2,show IntKind.i64.wrap 1=1 from rfl];exact Ae hI hZ hμ 1 (by omega) (by omega) ⟨[0,1,2,4],by simp[Ue,NJ,hn,e1,EV]⟩
     · simp[Ue,NJ,hd,hx1,hk0];refine Aw Vv rfl (by simp) rfl (by simp) (by simp) (by first | (simp;done)|(simp;omega)) (by simp[Bp,A4]) ?_;simp[w2];exact Ae hI hZ hμ (k+1) (by omega) (by omega) ⟨[0,1,2,5],by simp[Ue,NJ,hn,e1,EV]⟩
   · have hk':k=r.model.length:=by omega
     subst hk';rw[List.take_length];have hl:=OY r.model;generalize Lr r.model=ms at *;by_cases hk0:r.model.length=0
     · have hm:ms=[]:=zz7 (by omega);subst hm;simp[Ue,NJ,hk0,hlt]
     · simp[Ue,NJ,hlt,zz3 hlt,hk0]
 · by_cases h2:r.code=2
   · have hR2:R=(2,[],r.pf):=by rw[←hB,if_neg h1,if_pos h2]
     subst hR2;simp only[AA,DN,h2,if_true] at hcn;refine Ac (hcn) [2] [1] (by simp) ?_;simp;refine AJ 8 (by kernel_rfl) ?_;simp
   · have h3:r.code=3:=by omega
     have hR2:R=(3,[],[]):=by rw[←hB,if_neg h1,if_neg h2]
     subst hR2;simp only[AA,Bs,h1,h2,if_true,if_false] at hcn;rw[h3] at hcn;refine Ac (hcn) [2] [1] (by simp) ?_;simp
def Zq (b:Bool):Int:=if b=true then 1 else 0
end Go.Proofs.Ytnjedabjbeipeaa
