/-
  Mappings of a graph: the reference's check; what a mapping that is accepted obeys.
  Conditions: those typed in each theorem.
-/
import Derived.Test.YtnjedabjbeipeaaGreatNo
import Derived.Test.YtnjedabjbeipeaaGreatGa
namespace Go.Proofs.YtnjedabjbeipeaaGreat
open Go.RowKit Go.ChangeShapes Go.WideShapes
set_option linter.unusedSimpArgs false
set_option linter.unusedVariables false
set_option maxRecDepth 100000
set_option maxHeartbeats 10000000
section
attribute [local simp] D1 Fj
end
section
attribute [local simp] D1 Fj
def mx (a b:Int):Int:=if b > a then b else a
def Kt (s:List Bool) (rs:List Int):Nat→List Bool
 | 0=>s
 | j+1=>(Kt s rs j).set (A1 rs j / 2).toNat true
theorem Tx {s:List Bool} {rs:List Int}:∀ j,(Kt s rs j).length=s.length
 | 0=>rfl
 | j+1=>by simp[Kt,Tx j]
end
section
attribute [local simp] D1 Fj
theorem M9 {x:AK} (hok:Al x=true):∀ y∈Ay x,0≤y∧y<2*(A0 x:Int):=(AA hok).2.2.1
theorem QQ {x:AK} (hok:Al x=true):(Ay x).length≤64:=by
 obtain⟨⟨n1,n2,n3,n4,n5,n6⟩,o1,-,-⟩:=AA hok;have h1:=FR (x:=x) (k:=x.2.1.length) (M:=4) (fun s hs=>DE (o1 s hs));rw[FU] at h1;omega
end
section
attribute [local simp] D1 Fj
def In (i k:Int):List Int→Nat→Option Int
 | [],_=>none
 | y::c,j=>if y=k then some (Uz i j) else In i k c (j+1)
theorem Sg {i k:Int}:∀ {c:List Int} {j:Nat},k∉c→In i k c j=none
 | [],_,_=>rfl
 | y::c,j,h=>by
   simp only[List.mem_cons,not_or] at h;unfold In;rw[if_neg (fun e=>h.1 e.symm)];exact Sg h.2
def oY (x:AK) (c:List Int) (i:Int) (lv:List Int) (k:Nat):Int :=
 match In i k c 0 with
 | some b=>b
 | none=>if Aa x≤k then Bc lv (Aj x k).1*Bc lv (Aj x k).2 else 0
def OH (x:AK) (c:List Int) (i:Int):Nat→List Int
 | 0=>List.replicate (A0 x) 0
 | k+1=>(OH x c i k).set k (oY x c i (OH x c i k) k)
def oN (x:AK) (c:List Int) (i:Int) (k:Nat):Int:=A1 (OH x c i (k+1)) k
theorem OG {x:AK} {c:List Int} {i:Int}:∀ k,(OH x c i k).length=A0 x
 | 0=>by simp[OH]
 | k+1=>by simp[OH,OG k]
theorem Zl {i k:Int} {b:Int}:∀ {c:List Int} {j:Nat},In i k c j=some b→0≤b∧b≤1
 | [],_,h=>by simp[In] at h
 | y::c,j,h=>by
   unfold In at h;split at h
   · cases h;exact XW _ _
   · exact Zl h
theorem fJ (x:AK) (c:List Int) (i:Int) (lv:List Int) (k:Nat):0≤oY x c i lv k∧oY x c i lv k≤1:=by
 unfold oY;split
 · rename_i h;exact Zl h
 · split
   · have a:=Dw lv (Aj x k).1;have b:=Dw lv (Aj x k).2;rcases Et a with h|h<;>rcases Et b with g|g<;>rw[h,g]<;>omega
   · omega
theorem UM {x:AK} {c:List Int} {i:Int}:∀ k,CX (OH x c i k)
 | 0=>fun v hv=>by
   have:=List.eq_of_mem_replicate hv;omega
 | k+1=>fun v hv=>by
   rcases List.mem_or_eq_of_mem_set hv with h|h
   · exact UM k v h
   · rw[h];exact fJ _ _ _ _ _
theorem UJ {lv:List Int} {k j:Nat} {v:Int} (hk:k<lv.length):A1 (lv.set k v) j=if j=k then v else A1 lv j:=by
 unfold A1;rw[Int.toNat_natCast,List.getElem?_set];by_cases h:j=k
 · subst h;simp[hk]
 · rw[if_neg (fun e=>h e.symm),if_neg h]
theorem pE {x:AK} {c:List Int} {i:Int} {k:Nat} (hk:k<A0 x):oN x c i k=oY x c i (OH x c i k) k:=by
 show A1 ((OH x c i k).set k _) k=_;rw[UJ (by rw[OG];omega),if_pos rfl]
theorem pS {x:AK} {c:List Int} {i:Int} {k:Nat} (hk:k<A0 x):0≤oN x c i k∧oN x c i k≤1:=by rw[pE hk];exact fJ _ _ _ _ _
def jX (x:AK) (c:List Int) (v:Nat):List Int:=(List.range (2 ^ c.length)).map fun i:Nat=>oN x c i v
noncomputable def ON (x:AK) (c:List Int) (v:Nat):Int:=G0 (jX x c v)
noncomputable def tnL (x:AK) (c:List Int) (v:Nat):Int:=G0 ((jX x c v).map fun b=>1 - b)
theorem Ue {x:AK} {c:List Int} {v:Nat}:(jX x c v).length=2 ^ c.length:=by simp[jX]
theorem oM {x:AK} {c:List Int} {v i:Nat} (h:i<2 ^ c.length):(jX x c v)[i]? = some (oN x c i v):=by
 unfold jX;rw[ABz,ABi h];rfl
theorem WJ {x:AK} {c:List Int} {v:Nat} (hv:v<A0 x):CX (jX x c v):=Nc fun i _=>pS hv
theorem Sn {vs:List Int}:∀ k,k≤vs.length→CT (vs.map fun b=>1 - b) k=2 ^ k - 1 - CT vs k
 | 0,_=>by simp[CT]
 | k+1,h=>by
   have ih:=Sn (vs:=vs) k (by omega);have hk:vs[k]? = some vs[k]:=zz0 (by omega);have hp:(2:Int) ^ (k+1)=2 ^ k*2:=Int.pow_succ 2 k;unfold CT;rw[ABz,hk,ih,hp];simp only[Option.map_some,Option.getD_some,Int.sub_mul];omega
theorem oZ {x:AK} {c:List Int} {v:Nat}:tnL x c v=2 ^ (2 ^ c.length) - 1 - ON x c v:=by
 unfold tnL ON G0;rw[AB7,Sn _ (Nat.le_refl _),Ue]
end
theorem jS {n:Nat} (h:n≤4):Fi n=2 ^ (2 ^ n) - 1:=by
 have:n=0∨n=1∨n=2∨n=3∨n=4:=by omega
 rcases this with rfl|rfl|rfl|rfl|rfl<;>decide
theorem oG {x:AK} {c:List Int} {v:Nat} (hv:v<A0 x) (h:c.length≤4):Dq c.length (ON x c v)=true∧Dq c.length (tnL x c v)=true:=by
 have h1:=JI (WJ (c:=c) hv) (2 ^ c.length);have e:ON x c v=CT (jX x c v) (2 ^ c.length):=by unfold ON G0;rw[Ue]
 have h2:=oZ (x:=x) (c:=c) (v:=v);have hf:=jS h;rw[←e] at h1;unfold Dq;constructor
 · rw[Bool.and_eq_true,AP,AP,hf];omega
 · rw[Bool.and_eq_true,AP,AP,hf,h2];omega
theorem QI {m:List Int} {v:Nat} {z:Int}:(m.map (e1 AC)).set v [D.int .i64 z]=(m.set v z).map (e1 AC):=by rw[List.map_set];rfl
abbrev ZD (x:AK):Ah:=.var 28 [.d (.int .i64 x.1),.d (Dh 57 AY x.2.1),.d (Dh 63 At x.2.2.1),.d (Dh 3 (e1 AC) x.2.2.2)]
theorem mX {n:Nat} (h:n≤4):EC 1 (n:Int)=((2 ^ n:Nat):Int)∧2 ^ n≤16:=by
 have:n=0∨n=1∨n=2∨n=3∨n=4:=by omega
 rcases this with rfl|rfl|rfl|rfl|rfl<;>decide
theorem NX:∀ {xs:List Int},(∀ k:Nat,k+1<xs.length→A1 xs k<A1 xs ((k:Int)+1))→Mm xs
 | [],_=>List.Pairwise.nil
 | [a],_=>List.pairwise_singleton _ _
 | a::b::l,h=>by
   have ht:Mm (b::l):=NX fun k hk=>by
    have:=h (k+1) (by simp at hk ⊢;omega);unfold A1 at this ⊢;rw[show (((k+1:Nat):Int)+1).toNat=((k:Int)+1).toNat+1 by omega,Int.toNat_natCast,List.getElem?_cons_succ,List.getElem?_cons_succ] at this;rw[Int.toNat_natCast];exact this
   have hab:a<b:=by have:=h 0 (by simp);simpa [A1] using this
   refine List.pairwise_cons.2 ⟨fun z hz=>?_,ht⟩;rcases List.mem_cons.1 hz with rfl|hz
   · exact hab
   · exact Int.lt_trans hab ((List.pairwise_cons.1 ht).1 z hz)
theorem aQ {xs:List Int} (h:Ui xs=true):xs.Nodup:=by
 have:Mm xs:=NX fun k hk=>by
  have:=zz8.1 h k (ABw.2 (by omega));simpa using this
 exact this.imp fun hab=>by omega
theorem Sp {i k y:Int}:∀ {l:List Int} {j:Nat},In i k (l++[y]) j=match In i k l j with|some b=>some b|none=>if y=k then some (Uz i (j+l.length)) else none
 | [],j=>by simp[In]
 | z::l,j=>by
   rw[List.cons_append];unfold In;split
   · rfl
   · rw[Sp (l:=l) (j:=j+1),List.length_cons,show j+1+l.length=j+(l.length+1) by omega]
theorem Vx {x:AK} {c:List Int} {i:Int}:∀ (k j:Nat),k≤j→A1 (OH x c i k) j=0
 | 0,j,_=>by
   unfold OH A1;rw[List.getElem?_replicate];split<;>rfl
 | k+1,j,h=>by
   have ih:=Vx (x:=x) (c:=c) (i:=i) k j (by omega);unfold OH;by_cases hl:k<(OH x c i k).length
   · rw[UJ hl,if_neg (by omega)];exact ih
   · rw[List.set_eq_of_length_le (by omega)];exact ih
theorem eJ {l:List Int} {k:Nat} {z:Int} (h:l[k]? = some z):l.set k z=l:=by
 apply List.ext_getElem?;intro j;rw[List.getElem?_set];split
 · rename_i e;subst e;rw[if_pos ((zz1.1 h).1),h]
 · rfl
theorem Ra (n:Nat) (b:Int) (h:Dq n b=true):Bx Tryz.prog 102 [.agg [.int .i64 n,.int .i64 b]] (.agg [.int .i64 n,.int .i64 (Fi n - b)]):=by
 have hr:=h;simp only[Dq,Bool.and_eq_true] at hr;obtain⟨h1,h2⟩:=hr;have h2:=AP.1 h2;have kF:=Ss n h1;have hf:Fi n≤65535:=by unfold Fi;split<;>(try split)<;>(try split)<;>(try split)<;>omega
 have w1:IntKind.i64.wrap (Fi n - b)=Fi n - b:=Ad (by omega) (by omega);generalize Fi n=f at *;refine A5 (by kernel_rfl) Tryz.func102 rfl rfl rfl ?_;simp;refine Ab (Jj n b) ?_;simp[h];refine⟨by kernel_rfl,?_⟩;refine Ab (kF) ?_;simp[w1]
def Pa (L:List Int) (k:Nat) (o:Option Int):List Int:=match o with|some b=>L.set k b|none=>L
theorem Re (x:AK) (c:List Int) (v:Nat) (hx:Cz 1048576 x) (hg:JO x) (hok:Al x=true) (hc:H7 x v c=true) (hv:v<A0 x) :
 Bx Tryz.prog 100 [Ge x,.d (.int .i64 v),.d (Dh 3 (e1 AC) c)] (.agg [.int .i64 c.length,.int .i64 (ON x c v)]):=by
 have hc':=hc;simp only[H7,Bool.and_eq_true,decide_eq_true_eq] at hc';obtain⟨⟨⟨h4,hasc⟩,-⟩,-⟩:=hc';have hnd:=aQ hasc;have kO:=Qv x v c hx hg hok hv (by omega);rw[hc] at kO;obtain⟨⟨n1,n2,n3,n4,n5,n6⟩,-,-,-⟩:=AA hok;obtain⟨hF,hgl,hNi,hno⟩:=A7 hok;have hN:=Bp x;obtain⟨hsh,hm⟩:=mX h4;have hb:=WJ (c:=c) hv;have hvl:=Ue (x:=x) (c:=c) (v:=v);have hva:=fun i h=>oM (x:=x) (c:=c) (v:=v) (i:=i) h;have hT:ON x c v=CT (jX x c v) (2 ^ c.length):=by unfold ON G0;rw[hvl]
 rw[hT];generalize jX x c v=vs at *;generalize 2 ^ c.length=m at *;have kN:=Bt x;rw[hno] at kN;refine B3 (by kernel_rfl) Tryz.func100 rfl rfl rfl ?_;simp[Ao];refine Ab (kO) ?_;simp;refine AH [false,true,true,true,false,false,true,true,true] (fun i:Nat=>i≤m) (fun i:Nat=>[(8,.d (.int .i64 i))]) (fun i:Nat=>fun sl=>[ZD x,.var 118 [.d (.int .i64 0),.d (.int .i64 0)],.var 118 [.d (.int .i64 c.length),.d (.int .i64 (CT vs i))]]) (fun i:Nat=>m - i) 0 ?_ ?_ ?_
 · simp
 · exact⟨[0,1,2],by simp[ZD,CT]⟩
 rintro I S μ hI hS hμ i hi;by_cases hlt:i<m
 · have hd:=zz2 hlt;have w2:IntKind.i64.wrap ((i:Int)+1)=(i:Int)+1:=Ad (by omega) (by omega);have hx1:=hva i hlt;have hpk:=Sw hb hx1 (by omega);have hvat:=B8 (lv:=OH x c i (v+1)) (k:=(v:Int)) (by rw[OG];omega);rw[Int.toNat_natCast,show A1 (OH x c i (v+1)) (v:Int)=oN x c i v from rfl] at hvat;have hz0:(OH x c i 0).map (e1 AC)=List.replicate (A0 x) [D.int .i64 0]:=by unfold OH;rw[List.map_replicate];rfl
   generalize hp2:CT vs (i+1)=p2 at *;generalize CT vs i=p1 at *;simp[hsh,hd,hlt];refine Ab (kN) ?_;simp[show (A0 x:Int)≤1099511627776 by omega];refine AH [false,true,true,true,false,false,true,true,true,true,true] (fun k:Nat=>k≤v+1) (fun k:Nat=>[(10,.d (.int .i64 k))]) (fun k:Nat=>fun sl=>[ZD x,.var 118 [.d (.int .i64 0),.d (.int .i64 0)],.var 118 [.d (.int .i64 c.length),.d (.int .i64 p1)],.arr 3 true ((OH x c i k).map (e1 AC))]) (fun k:Nat=>v+1 - k) 0 ?_ ?_ ?_
   · simp
   · exact⟨[0,1,2,3],by simp[ZD,hz0]⟩
   rintro I2 S2 μ2 hI2 hS2 hμ2 k hk;have hLl:=OG (x:=x) (c:=c) (i:=i) k;have hLb:=UM (x:=x) (c:=c) (i:=i) k;have hLz:=Vx (x:=x) (c:=c) (i:=i) k k (Nat.le_refl _);have hLs:OH x c i (k+1)=(OH x c i k).set k (oY x c i (OH x c i k) k):=rfl;by_cases hlt2:k<v+1
   · have w4:IntKind.i64.wrap ((k:Int)+1)=(k:Int)+1:=Ad (by omega) (by omega);have hkN:k<A0 x:=by omega
     have hkv:(k:Int)≤v:=by omega
     have hLk:=B8 (lv:=OH x c i k) (k:=(k:Int)) (by rw[hLl];omega);rw[Int.toNat_natCast,hLz] at hLk;unfold oY at hLs;generalize hL0:OH x c i k=L at *;simp[hkv,show k≤v by omega];refine AH [false,true,true,true,false,false,true,true,true,true,true,true,true] (fun j:Nat=>j≤c.length) (fun j:Nat=>[(11,.d (.bool (In i k (c.take j) 0).isSome)),(12,.d (.int .i64 j))]) (fun j:Nat=>fun sl=>[ZD x,.var 118 [.d (.int .i64 0),.d (.int .i64 0)],.var 118 [.d (.int .i64 c.length),.d (.int .i64 p1)],.arr 3 true ((Pa L k (In i k (c.take j) 0)).map (e1 AC))]) (fun j:Nat=>c.length - j) 0 ?_ ?_ ?_
     · simp
     · exact⟨[0,1,2,3],by simp[ZD,Pa,In]⟩
     rintro I3 S3 μ3 hI3 hS3 hμ3 j hj;by_cases hlt3:j<c.length
     · have hy1:c[j]? = some c[j]:=zz0 hlt3;have hd3:=zz2 hlt3;have w6:IntKind.i64.wrap ((j:Int)+1)=(j:Int)+1:=Ad (by omega) (by omega);have hsn:=Sp (i:=(i:Int)) (k:=(k:Int)) (y:=c[j]) (l:=c.take j) (j:=0);rw[←Ba hy1] at hsn;rw[ACC,Nat.min_eq_left (by omega),Nat.zero_add] at hsn;have hbt:=Ze (i:Int) j;have hset:=QI (m:=L) (v:=k) (z:=Uz (i:Int) j);by_cases he:c[j]=(k:Int)
       · have hno:In i k (c.take j) 0=none:=Sg fun hm=>by
          have h2:(c.take j++[c[j]]).Nodup:=by rw[←Ba hy1];exact hnd.sublist (List.take_sublist _ _)
          rw[List.nodup_append] at h2;exact h2.2.2 _ hm _ (by simp) he.symm
         rw[hno] at hsn ⊢;simp only[he,if_true] at hsn;rw[he] at hy1;generalize Uz (i:Int) j=bt at *;generalize L.set k bt=L2 at *;simp[hd3,hy1,Pa,hbt,hLk,hset,w6];exact Ae hI3 hS3 hμ3 (j+1) (by omega) (by omega) ⟨[0,1,2,3],by simp[hsn,Pa,ZD,hset]⟩
       · have hne:(c[j]==(k:Int))=false:=by simpa using he
         rw[if_neg he] at hsn;have hsn':In (i:Int) k (c.take (j+1)) 0=In (i:Int) k (c.take j) 0:=by rw[hsn];cases In (i:Int) k (c.take j) 0<;>rfl
         generalize c[j]=y at *;generalize hq:In (i:Int) k (c.take j) 0=o at *
         cases o with
         | none =>
           simp[hd3,hy1,Pa,he,hne,w6];exact Ae hI3 hS3 hμ3 (j+1) (by omega) (by omega) ⟨[0,1,2,3],by simp[hsn',Pa,ZD]⟩
         | some b =>
           have hset2:=QI (m:=L) (v:=k) (z:=b);generalize hL2:L.set k b=L2 at *;simp[hd3,hy1,Pa,he,hne,w6,hL2];exact Ae hI3 hS3 hμ3 (j+1) (by omega) (by omega) ⟨[0,1,2,3],by simp[hsn',Pa,ZD,hL2]⟩
     obtain rfl:j=c.length:=by omega
     rw[List.take_length]
     cases hq:In (i:Int) k c 0 with
     | some b =>
       rw[hq] at hLs;simp only at hLs;generalize hL2:L.set k b=L2 at *;simp[Pa,hL2,zz3 hlt3,hlt3];refine Ae hI2 hS2 hμ2 (k+1) (by omega) (by omega) ⟨[0,1,2,3],?_⟩;simp[hLs,ZD,w4]
     | none =>
       rw[hq] at hLs;simp only at hLs;have kF:=BE x ⟨n1,n2⟩ n3;by_cases hf:Aa x≤k
       · rw[if_pos hf] at hLs;obtain⟨ha,a1,a2,a3,a4,a5,a6⟩:=CW hok hf hkN;have w1:IntKind.i64.wrap ((k:Int) - (1+x.1+x.2.1.length))=(k:Int) - (1+x.1+x.2.1.length):=Ad (by omega) (by omega);have ht:((k:Int) - (1+x.1+x.2.1.length)).toNat=k - Aa x:=by omega
         have hL:(At (Aj x k)).length=2:=rfl;have hn0:¬ (k:Int) - (1+x.1+x.2.1.length)<0:=by omega
         have k1:=PW L (Aj x k).1 hLb (by omega) (by omega);have k2:=PW L (Aj x k).2 hLb (by omega) (by omega);have x3:=RY (Dw L (Aj x k).1) (Dw L (Aj x k).2);generalize Bc L (Aj x k).1=v1 at *;generalize Bc L (Aj x k).2=v2 at *;generalize v1*v2=v3 at *;have hset:=QI (m:=L) (v:=k) (z:=v3);generalize hL2:L.set k v3=L2 at *;simp[Pa,zz3 hlt3,hlt3];refine Ab (kF) ?_;simp[show (1:Int)+x.1+x.2.1.length≤k by omega];refine AJ 9 (by kernel_rfl) ?_;simp;refine Ab (kF) ?_;simp[w1,ht,ha,hL,hn0,At];refine AJ 12 (by kernel_rfl) ?_;simp;refine Ab (k1) ?_;simp;refine Ab (k2) ?_;simp[x3,hLk,hset];refine Ae hI2 hS2 hμ2 (k+1) (by omega) (by omega) ⟨[0,1,2,3],?_⟩;simp[hLs,ZD,w4]
       · rw[if_neg hf,eJ hLk] at hLs;simp[Pa,zz3 hlt3,hlt3];refine Ab (kF) ?_;simp[show ¬ (1:Int)+x.1+x.2.1.length≤k by omega,show (k:Int)<1+x.1+x.2.1.length by omega];refine Ae hI2 hS2 hμ2 (k+1) (by omega) (by omega) ⟨[0,1,2,3],?_⟩;simp[hLs,ZD,w4]
   obtain rfl:k=v+1:=by omega
   generalize OH x c i (v+1)=L at *;generalize oN x c i v=z at *;simp[show ¬ (v:Int)+1≤v by omega];refine AJ 10 (by kernel_rfl) ?_;simp[hvat,hpk];refine Ae hI hS hμ (i+1) (by omega) (by omega) ⟨[0,1,2],?_⟩;simp[ZD,w2,hp2]
 obtain rfl:i=m:=by omega
 simp[hsh]
end Go.Proofs.YtnjedabjbeipeaaGreat
