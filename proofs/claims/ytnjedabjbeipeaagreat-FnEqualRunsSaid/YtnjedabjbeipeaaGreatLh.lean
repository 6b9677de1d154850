/-
  Mappings of a graph: the reference's check; what a mapping that is accepted obeys.
  Conditions: those typed in each theorem.
-/
import Derived.Test.YtnjedabjbeipeaaGreatNo
import Derived.Test.YtnjedabjbeipeaaGreatGa
namespace Go.Proofs.YtnjedabjbeipeaaGreat
open Go.RowKit Go.ChangeShapes Go.WideShapes
set_option linter.unusedSimpArgs false
set_option linter.unusedVariables false
set_option maxRecDepth 100000
set_option maxHeartbeats 10000000
section
attribute [local simp] Ee FE
end
section
attribute [local simp] Ee FE
def mx (a b:Int):Int:=if b > a then b else a
def KY (s:List Bool) (rs:List Int):Nat→List Bool
 | 0=>s
 | j+1=>(KY s rs j).set (A3 rs j / 2).toNat true
theorem UL {s:List Bool} {rs:List Int}:∀ j,(KY s rs j).length=s.length
 | 0=>rfl
 | j+1=>by simp[KY,UL j]
end
section
attribute [local simp] Ee FE
theorem Nd {x:AK} (hok:Al x=true):∀ y∈Ay x,0≤y∧y<2*(A0 x:Int):=(AA hok).2.2.1
theorem QO {x:AK} (hok:Al x=true):(Ay x).length≤64:=by
 obtain⟨⟨n1,n2,n3,n4,n5,n6⟩,o1,-,-⟩:=AA hok;have h1:=Gr (x:=x) (k:=x.2.1.length) (M:=4) (fun s hs=>DP (o1 s hs));rw[Gi] at h1;omega
end
section
attribute [local simp] Ee FE
def IJ (i k:Int):List Int→Nat→Option Int
 | [],_=>none
 | y::c,j=>if y=k then some (Xk i j) else IJ i k c (j+1)
theorem Tl {i k:Int}:∀ {c:List Int} {j:Nat},k∉c→IJ i k c j=none
 | [],_,_=>rfl
 | y::c,j,h=>by
   simp only[List.mem_cons,not_or] at h;unfold IJ;rw[if_neg (fun e=>h.1 e.symm)];exact Tl h.2
def qB (x:AK) (c:List Int) (i:Int) (lv:List Int) (k:Nat):Int :=
 match IJ i k c 0 with
 | some b=>b
 | none=>if Aa x≤k then Be lv (Aj x k).1*Be lv (Aj x k).2 else 0
def PF (x:AK) (c:List Int) (i:Int):Nat→List Int
 | 0=>List.replicate (A0 x) 0
 | k+1=>(PF x c i k).set k (qB x c i (PF x c i k) k)
def qL (x:AK) (c:List Int) (i:Int) (k:Nat):Int:=A3 (PF x c i (k+1)) k
theorem Pf {x:AK} {c:List Int} {i:Int}:∀ k,(PF x c i k).length=A0 x
 | 0=>by simp[PF]
 | k+1=>by simp[PF,Pf k]
theorem Zq {i k:Int} {b:Int}:∀ {c:List Int} {j:Nat},IJ i k c j=some b→0≤b∧b≤1
 | [],_,h=>by simp[IJ] at h
 | y::c,j,h=>by
   unfold IJ at h;split at h
   · cases h;exact Yp _ _
   · exact Zq h
theorem iQ (x:AK) (c:List Int) (i:Int) (lv:List Int) (k:Nat):0≤qB x c i lv k∧qB x c i lv k≤1:=by
 unfold qB;split
 · rename_i h;exact Zq h
 · split
   · have a:=DF lv (Aj x k).1;have b:=DF lv (Aj x k).2;rcases EI a with h|h<;>rcases EI b with g|g<;>rw[h,g]<;>omega
   · omega
theorem W2 {x:AK} {c:List Int} {i:Int}:∀ k,C5 (PF x c i k)
 | 0=>fun v hv=>by
   have:=List.eq_of_mem_replicate hv;omega
 | k+1=>fun v hv=>by
   rcases List.mem_or_eq_of_mem_set hv with h|h
   · exact W2 k v h
   · rw[h];exact iQ _ _ _ _ _
theorem WV {lv:List Int} {k j:Nat} {v:Int} (hk:k<lv.length):A3 (lv.set k v) j=if j=k then v else A3 lv j:=by
 unfold A3;rw[Int.toNat_natCast,List.getElem?_set];by_cases h:j=k
 · subst h;simp[hk]
 · rw[if_neg (fun e=>h e.symm),if_neg h]
theorem pU {x:AK} {c:List Int} {i:Int} {k:Nat} (hk:k<A0 x):qL x c i k=qB x c i (PF x c i k) k:=by
 show A3 ((PF x c i k).set k _) k=_;rw[WV (by rw[Pf];omega),if_pos rfl]
theorem qX {x:AK} {c:List Int} {i:Int} {k:Nat} (hk:k<A0 x):0≤qL x c i k∧qL x c i k≤1:=by rw[pU hk];exact iQ _ _ _ _ _
def mD (x:AK) (c:List Int) (v:Nat):List Int:=(List.range (2 ^ c.length)).map fun i:Nat=>qL x c i v
noncomputable def Pw (x:AK) (c:List Int) (v:Nat):Int:=Hp (mD x c v)
noncomputable def tnL (x:AK) (c:List Int) (v:Nat):Int:=Hp ((mD x c v).map fun b=>1 - b)
theorem UH {x:AK} {c:List Int} {v:Nat}:(mD x c v).length=2 ^ c.length:=by simp[mD]
theorem qO {x:AK} {c:List Int} {v i:Nat} (h:i<2 ^ c.length):(mD x c v)[i]? = some (qL x c i v):=by
 unfold mD;rw[Di,Yx h];rfl
theorem W4 {x:AK} {c:List Int} {v:Nat} (hv:v<A0 x):C5 (mD x c v):=M7 fun i _=>qX hv
theorem SZ {vs:List Int}:∀ k,k≤vs.length→C1 (vs.map fun b=>1 - b) k=2 ^ k - 1 - C1 vs k
 | 0,_=>by simp[C1]
 | k+1,h=>by
   have ih:=SZ (vs:=vs) k (by omega);have hk:vs[k]? = some vs[k]:=A1 (by omega);have hp:(2:Int) ^ (k+1)=2 ^ k*2:=Int.pow_succ 2 k;unfold C1;rw[Di,hk,ih,hp];simp only[Option.map_some,Option.getD_some,Int.sub_mul];omega
theorem rD {x:AK} {c:List Int} {v:Nat}:tnL x c v=2 ^ (2 ^ c.length) - 1 - Pw x c v:=by
 unfold tnL Pw Hp;rw[Fy,SZ _ (Nat.le_refl _),UH]
end
theorem jA {n:Nat} (h:n≤4):Fz n=2 ^ (2 ^ n) - 1:=by
 have:n=0∨n=1∨n=2∨n=3∨n=4:=by omega
 rcases this with rfl|rfl|rfl|rfl|rfl<;>decide
theorem qQ {x:AK} {c:List Int} {v:Nat} (hv:v<A0 x) (h:c.length≤4):DE c.length (Pw x c v)=true∧DE c.length (tnL x c v)=true:=by
 have h1:=J4 (W4 (c:=c) hv) (2 ^ c.length);have e:Pw x c v=C1 (mD x c v) (2 ^ c.length):=by unfold Pw Hp;rw[UH]
 have h2:=rD (x:=x) (c:=c) (v:=v);have hf:=jA h;rw[←e] at h1;unfold DE;constructor
 · rw[Bool.and_eq_true,AP,AP,hf];omega
 · rw[Bool.and_eq_true,AP,AP,hf,h2];omega
theorem Qp {m:List Int} {v:Nat} {z:Int}:(m.map (e1 AC)).set v [D.int .i64 z]=(m.set v z).map (e1 AC):=by rw[List.map_set];rfl
abbrev aE (x:AK):Ah:=.var 28 [.d (.int .i64 x.1),.d (Dr 57 AY x.2.1),.d (Dr 63 At x.2.2.1),.d (Dr 3 (e1 AC) x.2.2.2)]
theorem nR {n:Nat} (h:n≤4):ES 1 (n:Int)=((2 ^ n:Nat):Int)∧2 ^ n≤16:=by
 have:n=0∨n=1∨n=2∨n=3∨n=4:=by omega
 rcases this with rfl|rfl|rfl|rfl|rfl<;>decide
theorem Ov:∀ {xs:List Int},(∀ k:Nat,k+1<xs.length→A3 xs k<A3 xs ((k:Int)+1))→MM xs
 | [],_=>List.Pairwise.nil
 | [a],_=>List.pairwise_singleton _ _
 | a::b::l,h=>by
   have ht:MM (b::l):=Ov fun k hk=>by
    have:=h (k+1) (by simp at hk ⊢;omega);unfold A3 at this ⊢;rw[show (((k+1:Nat):Int)+1).toNat=((k:Int)+1).toNat+1 by omega,Int.toNat_natCast,List.getElem?_cons_succ,List.getElem?_cons_succ] at this;rw[Int.toNat_natCast];exact this
   have hab:a<b:=by have:=h 0 (by simp);simpa [A3] using this
   refine List.pairwise_cons.2 ⟨fun z hz=>?_,ht⟩;rcases List.mem_cons.1 hz with rfl|hz
   · exact hab
   · exact Int.lt_trans hab ((List.pairwise_cons.1 ht).1 z hz)
theorem aZ {xs:List Int} (h:TP xs=true):xs.Nodup:=by
 have:MM xs:=Ov fun k hk=>by
  have:=GA.1 h k (Gq.2 (by omega));simpa using this
 exact this.imp fun hab=>by omega
theorem Tp {i k y:Int}:∀ {l:List Int} {j:Nat},IJ i k (l++[y]) j=match IJ i k l j with|some b=>some b|none=>if y=k then some (Xk i (j+l.length)) else none
 | [],j=>by simp[IJ]
 | z::l,j=>by
   rw[List.cons_append];unfold IJ;split
   · rfl
   · rw[Tp (l:=l) (j:=j+1),List.length_cons,show j+1+l.length=j+(l.length+1) by omega]
theorem WS {x:AK} {c:List Int} {i:Int}:∀ (k j:Nat),k≤j→A3 (PF x c i k) j=0
 | 0,j,_=>by
   unfold PF A3;rw[List.getElem?_replicate];split<;>rfl
 | k+1,j,h=>by
   have ih:=WS (x:=x) (c:=c) (i:=i) k j (by omega);unfold PF;by_cases hl:k<(PF x c i k).length
   · rw[WV hl,if_neg (by omega)];exact ih
   · rw[List.set_eq_of_length_le (by omega)];exact ih
theorem gQ {l:List Int} {k:Nat} {z:Int} (h:l[k]? = some z):l.set k z=l:=by
 apply List.ext_getElem?;intro j;rw[List.getElem?_set];split
 · rename_i e;subst e;rw[if_pos ((BZ.1 h).1),h]
 · rfl
theorem RJ (n:Nat) (b:Int) (h:DE n b=true):BA Tryz.prog 102 [.agg [.int .i64 n,.int .i64 b]] (.agg [.int .i64 n,.int .i64 (Fz n - b)]):=by
 have hr:=h;simp only[DE,Bool.and_eq_true] at hr;obtain⟨h1,h2⟩:=hr;have h2:=AP.1 h2;have kF:=Sl n h1;have hf:Fz n≤65535:=by unfold Fz;split<;>(try split)<;>(try split)<;>(try split)<;>omega
 have w1:IntKind.i64.wrap (Fz n - b)=Fz n - b:=Ad (by omega) (by omega);generalize Fz n=f at *;refine A6 (by kernel_rfl) Tryz.func102 rfl rfl rfl ?_;simp;refine Ab (Jk n b) ?_;simp[h];refine⟨by kernel_rfl,?_⟩;refine Ab (kF) ?_;simp[w1]
def Qq (L:List Int) (k:Nat) (o:Option Int):List Int:=match o with|some b=>L.set k b|none=>L
theorem R0 (x:AK) (c:List Int) (v:Nat) (hx:CF 1048576 x) (hg:Kz x) (hok:Al x=true) (hc:Iz x v c=true) (hv:v<A0 x) :
 BA Tryz.prog 100 [GD x,.d (.int .i64 v),.d (Dr 3 (e1 AC) c)] (.agg [.int .i64 c.length,.int .i64 (Pw x c v)]):=by
 have hc':=hc;simp only[Iz,Bool.and_eq_true,decide_eq_true_eq] at hc';obtain⟨⟨⟨h4,hasc⟩,-⟩,-⟩:=hc';have hnd:=aZ hasc;have kO:=P7 x v c hx hg hok hv (by omega);rw[hc] at kO;obtain⟨⟨n1,n2,n3,n4,n5,n6⟩,-,-,-⟩:=AA hok;obtain⟨hF,hgl,hNi,hno⟩:=A9 hok;have hN:=Br x;obtain⟨hsh,hm⟩:=nR h4;have hb:=W4 (c:=c) hv;have hvl:=UH (x:=x) (c:=c) (v:=v);have hva:=fun i h=>qO (x:=x) (c:=c) (v:=v) (i:=i) h;have hT:Pw x c v=C1 (mD x c v) (2 ^ c.length):=by unfold Pw Hp;rw[hvl]
 rw[hT];generalize mD x c v=vs at *;generalize 2 ^ c.length=m at *;have kN:=Bw x;rw[hno] at kN;refine B7 (by kernel_rfl) Tryz.func100 rfl rfl rfl ?_;simp[Ao];refine Ab (kO) ?_;simp;refine AJ [false,true,true,true,false,false,true,true,true] (fun i:Nat=>i≤m) (fun i:Nat=>[(8,.d (.int .i64 i))]) (fun i:Nat=>fun sl=>[aE x,.var 118 [.d (.int .i64 0),.d (.int .i64 0)],.var 118 [.d (.int .i64 c.length),.d (.int .i64 (C1 vs i))]]) (fun i:Nat=>m - i) 0 ?_ ?_ ?_
 · simp
 · exact⟨[0,1,2],by simp[aE,C1]⟩
 rintro I S μ hI hS hμ i hi;by_cases hlt:i<m
 · have hd:=A8 hlt;have w2:IntKind.i64.wrap ((i:Int)+1)=(i:Int)+1:=Ad (by omega) (by omega);have hx1:=hva i hlt;have hpk:=Sx hb hx1 (by omega);have hvat:=Cc (lv:=PF x c i (v+1)) (k:=(v:Int)) (by rw[Pf];omega);rw[Int.toNat_natCast,show A3 (PF x c i (v+1)) (v:Int)=qL x c i v from rfl] at hvat;have hz0:(PF x c i 0).map (e1 AC)=List.replicate (A0 x) [D.int .i64 0]:=by unfold PF;rw[List.map_replicate];rfl
   generalize hp2:C1 vs (i+1)=p2 at *;generalize C1 vs i=p1 at *;simp[hsh,hd,hlt];refine Ab (kN) ?_;simp[show (A0 x:Int)≤1099511627776 by omega];refine AJ [false,true,true,true,false,false,true,true,true,true,true] (fun k:Nat=>k≤v+1) (fun k:Nat=>[(10,.d (.int .i64 k))]) (fun k:Nat=>fun sl=>[aE x,.var 118 [.d (.int .i64 0),.d (.int .i64 0)],.var 118 [.d (.int .i64 c.length),.d (.int .i64 p1)],.arr 3 true ((PF x c i k).map (e1 AC))]) (fun k:Nat=>v+1 - k) 0 ?_ ?_ ?_
   · simp
   · exact⟨[0,1,2,3],by simp[aE,hz0]⟩
   rintro I2 S2 μ2 hI2 hS2 hμ2 k hk;have hLl:=Pf (x:=x) (c:=c) (i:=i) k;have hLb:=W2 (x:=x) (c:=c) (i:=i) k;have hLz:=WS (x:=x) (c:=c) (i:=i) k k (Nat.le_refl _);have hLs:PF x c i (k+1)=(PF x c i k).set k (qB x c i (PF x c i k) k):=rfl;by_cases hlt2:k<v+1
   · have w4:IntKind.i64.wrap ((k:Int)+1)=(k:Int)+1:=Ad (by omega) (by omega);have hkN:k<A0 x:=by omega
     have hkv:(k:Int)≤v:=by omega
     have hLk:=Cc (lv:=PF x c i k) (k:=(k:Int)) (by rw[hLl];omega);rw[Int.toNat_natCast,hLz] at hLk;unfold qB at hLs;generalize hL0:PF x c i k=L at *;simp[hkv,show k≤v by omega];refine AJ [false,true,true,true,false,false,true,true,true,true,true,true,true] (fun j:Nat=>j≤c.length) (fun j:Nat=>[(11,.d (.bool (IJ i k (c.take j) 0).isSome)),(12,.d (.int .i64 j))]) (fun j:Nat=>fun sl=>[aE x,.var 118 [.d (.int .i64 0),.d (.int .i64 0)],.var 118 [.d (.int .i64 c.length),.d (.int .i64 p1)],.arr 3 true ((Qq L k (IJ i k (c.take j) 0)).map (e1 AC))]) (fun j:Nat=>c.length - j) 0 ?_ ?_ ?_
     · simp
     · exact⟨[0,1,2,3],by simp[aE,Qq,IJ]⟩
     rintro I3 S3 μ3 hI3 hS3 hμ3 j hj;by_cases hlt3:j<c.length
     · have hy1:c[j]? = some c[j]:=A1 hlt3;have hd3:=A8 hlt3;have w6:IntKind.i64.wrap ((j:Int)+1)=(j:Int)+1:=Ad (by omega) (by omega);have hsn:=Tp (i:=(i:Int)) (k:=(k:Int)) (y:=c[j]) (l:=c.take j) (j:=0);rw[←Bb hy1] at hsn;rw[Gf,Nat.min_eq_left (by omega),Nat.zero_add] at hsn;have hbt:=Zj (i:Int) j;have hset:=Qp (m:=L) (v:=k) (z:=Xk (i:Int) j);by_cases he:c[j]=(k:Int)
       · have hno:IJ i k (c.take j) 0=none:=Tl fun hm=>by
          have h2:(c.take j++[c[j]]).Nodup:=by rw[←Bb hy1];exact hnd.sublist (List.take_sublist _ _)
          rw[List.nodup_append] at h2;exact h2.2.2 _ hm _ (by simp) he.symm
         rw[hno] at hsn ⊢;simp only[he,if_true] at hsn;rw[he] at hy1;generalize Xk (i:Int) j=bt at *;generalize L.set k bt=L2 at *;simp[hd3,hy1,Qq,hbt,hLk,hset,w6];exact Ae hI3 hS3 hμ3 (j+1) (by omega) (by omega) ⟨[0,1,2,3],by simp[hsn,Qq,aE,hset]⟩
       · have hne:(c[j]==(k:Int))=false:=by simpa using he
         rw[if_neg he] at hsn;have hsn':IJ (i:Int) k (c.take (j+1)) 0=IJ (i:Int) k (c.take j) 0:=by rw[hsn];cases IJ (i:Int) k (c.take j) 0<;>rfl
         generalize c[j]=y at *;generalize hq:IJ (i:Int) k (c.take j) 0=o at *
         cases o with
         | none =>
           simp[hd3,hy1,Qq,he,hne,w6];exact Ae hI3 hS3 hμ3 (j+1) (by omega) (by omega) ⟨[0,1,2,3],by simp[hsn',Qq,aE]⟩
         | some b =>
           have hset2:=Qp (m:=L) (v:=k) (z:=b);generalize hL2:L.set k b=L2 at *;simp[hd3,hy1,Qq,he,hne,w6,hL2];exact Ae hI3 hS3 hμ3 (j+1) (by omega) (by omega) ⟨[0,1,2,3],by simp[hsn',Qq,aE,hL2]⟩
     obtain rfl:j=c.length:=by omega
     rw[List.take_length]
     cases hq:IJ (i:Int) k c 0 with
     | some b =>
       rw[hq] at hLs;simp only at hLs;generalize hL2:L.set k b=L2 at *;simp[Qq,hL2,BH hlt3,hlt3];refine Ae hI2 hS2 hμ2 (k+1) (by omega) (by omega) ⟨[0,1,2,3],?_⟩;simp[hLs,aE,w4]
     | none =>
       rw[hq] at hLs;simp only at hLs;have kF:=BJ x ⟨n1,n2⟩ n3;by_cases hf:Aa x≤k
       · rw[if_pos hf] at hLs;obtain⟨ha,a1,a2,a3,a4,a5,a6⟩:=C3 hok hf hkN;have w1:IntKind.i64.wrap ((k:Int) - (1+x.1+x.2.1.length))=(k:Int) - (1+x.1+x.2.1.length):=Ad (by omega) (by omega);have ht:((k:Int) - (1+x.1+x.2.1.length)).toNat=k - Aa x:=by omega
         have hL:(At (Aj x k)).length=2:=rfl;have hn0:¬ (k:Int) - (1+x.1+x.2.1.length)<0:=by omega
         have k1:=PJ L (Aj x k).1 hLb (by omega) (by omega);have k2:=PJ L (Aj x k).2 hLb (by omega) (by omega);have x3:=TG (DF L (Aj x k).1) (DF L (Aj x k).2);generalize Be L (Aj x k).1=v1 at *;generalize Be L (Aj x k).2=v2 at *;generalize v1*v2=v3 at *;have hset:=Qp (m:=L) (v:=k) (z:=v3);generalize hL2:L.set k v3=L2 at *;simp[Qq,BH hlt3,hlt3];refine Ab (kF) ?_;simp[show (1:Int)+x.1+x.2.1.length≤k by omega];refine AH 9 (by kernel_rfl) ?_;simp;refine Ab (kF) ?_;simp[w1,ht,ha,hL,hn0,At];refine AH 12 (by kernel_rfl) ?_;simp;refine Ab (k1) ?_;simp;refine Ab (k2) ?_;simp[x3,hLk,hset];refine Ae hI2 hS2 hμ2 (k+1) (by omega) (by omega) ⟨[0,1,2,3],?_⟩;simp[hLs,aE,w4]
       · rw[if_neg hf,gQ hLk] at hLs;simp[Qq,BH hlt3,hlt3];refine Ab (kF) ?_;simp[show ¬ (1:Int)+x.1+x.2.1.length≤k by omega,show (k:Int)<1+x.1+x.2.1.length by omega];refine Ae hI2 hS2 hμ2 (k+1) (by omega) (by omega) ⟨[0,1,2,3],?_⟩;simp[hLs,aE,w4]
   obtain rfl:k=v+1:=by omega
   generalize PF x c i (v+1)=L at *;generalize qL x c i v=z at *;simp[show ¬ (v:Int)+1≤v by omega];refine AH 10 (by kernel_rfl) ?_;simp[hvat,hpk];refine Ae hI hS hμ (i+1) (by omega) (by omega) ⟨[0,1,2],?_⟩;simp[aE,w2,hp2]
 obtain rfl:i=m:=by omega
 simp[hsh]
end Go.Proofs.YtnjedabjbeipeaaGreat
