/-
  Selections of cuts, by abstract walks: the reference's candidates and selections.
  Conditions: those typed in each theorem.
-/
import Derived.Test.YtnjedabjbeipeaaGreatGb
namespace Go.Proofs.YtnjedabjbeipeaaGreat
open Go.RowKit Go.ChangeShapes Go.WideShapes
set_option linter.unusedSimpArgs false
set_option linter.unusedVariables false
set_option maxRecDepth 100000
set_option maxHeartbeats 10000000
theorem MS:∀ {p q:EI} {c:List Int},(∀ u∈p,Dk u c=true)→Gm (p++q) c=p++Gm q c
 | [],q,c,_=>rfl
 | u::p,q,c,h=>by
   have e:Gm (u::p++q) c=if Dk u c=true then u::Gm (p++q) c else if u=c then u::(p++q) else c::u::(p++q):=rfl;rw[e,if_pos (h u (by simp)),MS fun v hv=>h v (by simp[hv])];rfl
theorem Se:∀ {p:EI} {c u:List Int},(∃ v∈p,Dk v c=false)→Gm (p++[u]) c=Gm p c++[u]
 | [],c,u,h=>by obtain⟨v,hv,_⟩:=h;cases hv
 | w::p,c,u,h=>by
   have e:Gm (w::p++[u]) c=if Dk w c=true then w::Gm (p++[u]) c else if w=c then w::(p++[u]) else c::w::(p++[u]):=rfl;have e2:Gm (w::p) c=if Dk w c=true then w::Gm p c else if w=c then w::p else c::w::p:=rfl;rw[e,e2];by_cases hw:Dk w c=true
   · rw[if_pos hw,if_pos hw,Se]
     · rfl
     · obtain⟨v,hv,hl⟩:=h;rcases List.mem_cons.1 hv with rfl|hv
       · rw[hw] at hl;cases hl
       · exact⟨v,hv,hl⟩
   · rw[if_neg hw,if_neg hw];split<;>rfl
def VW (l:EI) (c:List Int) (i:Nat):Bool:=(l.take i).any fun u=>!Dk u c
def KO (l:EI) (c:List Int) (i:Nat):EI:=if VW l c i=true then Gm (l.take i) c else l.take i
theorem Wk {l:EI} {c u:List Int} {i:Nat} (h:l[i]? = some u):VW l c (i+1)=(VW l c i||!Dk u c):=by
 unfold VW;rw[Ba h,List.any_append];simp
theorem cY {l:EI} {c:List Int} {i:Nat} (h:VW l c i=false):∀ u∈l.take i,Dk u c=true:=fun u hu=>by
 unfold VW at h;have:=List.any_eq_false.1 h u hu;simpa using this
theorem mQ {l:EI} {c:List Int} {i:Nat} (h:VW l c i=true):∃ v∈l.take i,Dk v c=false:=by
 unfold VW at h;obtain⟨v,hv,hl⟩:=List.any_eq_true.1 h;exact⟨v,hv,by simpa using hl⟩
theorem jD {l:EI} {c:List Int} {i:Nat} (hs:NP l):(KO l c i).length≤l.length+1:=by
 unfold KO;split
 · have:=(La (l:=l.take i) (c:=c) (hs.sublist (List.take_sublist _ _))).2.2;have h2:(l.take i).length≤l.length:=by rw[ACC];omega
   omega
 · rw[ACC];omega
theorem bH {l:EI} {c u:List Int} {i:Nat} (h:l[i]? = some u) :
 KO l c (i+1)=if VW l c i=true then KO l c i++[u] else if Dk u c=true then KO l c i++[u] else if Dk c u=true then KO l c i++[c]++[u] else KO l c i++[c]:=by
 unfold KO;rw[Wk h,Ba h]
 cases hd:VW l c i with
 | true =>
   simp only[Bool.true_or,if_true];exact Se (mQ hd)
 | false =>
   simp only[Bool.false_or,Bool.false_eq_true,if_false]
   cases hu:Dk u c with
   | true=>simp
   | false =>
     simp only[Bool.not_false,if_true,Bool.false_eq_true,if_false];rw[MS (cY hd)];have e:Gm [u] c=if Dk u c=true then u::Gm [] c else if u=c then [u] else [c,u]:=rfl;rw[e,hu,if_neg (by simp)]
     cases hc:Dk c u with
     | true =>
       rw[if_neg (fun h=>by subst h;rw[hc] at hu;cases hu)];simp
     | false =>
       have:=RN hu hc;rw[if_pos this,this];simp
theorem jA {l:EI} {c:List Int}:(if VW l c l.length=true then KO l c l.length else KO l c l.length++[c])=Gm l c:=by
 unfold KO;rw[List.take_length]
 cases hd:VW l c l.length with
 | true=>simp
 | false =>
   have h:=cY hd;rw[List.take_length] at h;have e:=MS (q:=[]) h;rw[List.append_nil] at e;simp only[Bool.false_eq_true,if_false];rw[e];rfl
abbrev oU (c:List Int):V:=.d (Dh 3 (e1 AC) c)
abbrev Si (l:EI):V:=.d (Zf l)
theorem VO (l:EI) (c:List Int) (hl:l.length≤1000) (h4:∀ u∈l,u.length≤4) (hc:c.length≤4) (hs:NP l):CG Tryz.prog 117 [Si l,oU c] [] (Si (Gm l c)) []:=by
 have hend:=jA (l:=l) (c:=c);refine DZ (by kernel_rfl) Tryz.func117 rfl rfl rfl (by simp[Bi,Later]) (by simp[BN,Ah.live]) ?_;simp[Si,oU];refine AB [true,true,false,false,false,true,true,true] (fun i:Nat=>i≤l.length) (fun i:Nat=>[(6,.d (.bool (VW l c i))),(7,.d (.int .i64 i))]) (fun i:Nat=>[(0,.arr 26 false ((KO l c i).map Az))]) (fun i:Nat=>l.length - i) 0 ?_ ?_ ?_
 · exact Nat.zero_le _
 · exact⟨[0],by simp[VW,KO]⟩
 rintro I S μ hI hS hμ i hi;have hol:=jD (c:=c) (i:=i) hs;by_cases hlt:i<l.length
 · have hx1:l[i]? = some l[i]:=zz0 hlt;have hu4:=h4 _ (ABt hlt);have hst:=bH (c:=c) hx1;have hdn:=Wk (c:=c) hx1;have wi:IntKind.i64.wrap ((i:Int)+1)=((i+1:Nat):Int):=by rw[Ad (by omega) (by omega)];omega
   generalize l[i]=u at *;have hL:(Az u).length=1:=rfl;have k1:=L8 u c (by omega) (by omega);have k2:=L8 c u (by omega) (by omega);obtain⟨o2,ho2⟩:∃ o2,KO l c (i+1)=o2:=⟨_,rfl⟩;rw[ho2] at hst;obtain⟨d2,hd2⟩:∃ d2,VW l c (i+1)=d2:=⟨_,rfl⟩;rw[hd2] at hdn;generalize KO l c i=o at *;generalize VW l c i=dn at *
   cases dn with
   | true =>
     rw[if_pos rfl] at hst;rw[Bool.true_or] at hdn;simp[zz2 hlt,hx1,hL,Az];refine Ek (by exact rfl) AM (by exact rfl) (by simp) (by simp[Az,e1]) (by first | (simp;done)|(simp;omega)) ?_;simp[Az,wi];exact Ae hI hS hμ (i+1) (by omega) (by omega) ⟨[2],by simp[hd2,hdn,ho2,hst,Az,e1,Dh]⟩
   | false =>
     rw[if_neg (by simp)] at hst;rw[Bool.false_or] at hdn;simp[zz2 hlt,hx1,hL,Az]
     cases hu:Dk u c with
     | true =>
       rw[hu] at k1 hdn;rw[hu,if_pos rfl] at hst;refine Ab (k1) ?_;simp[hx1,hL,Az];refine Ek (by exact rfl) AM (by exact rfl) (by simp) (by simp[Az,e1]) (by first | (simp;done)|(simp;omega)) ?_;simp[Az,wi];exact Ae hI hS hμ (i+1) (by omega) (by omega) ⟨[2],by simp[hd2,hdn,ho2,hst,Az,e1,Dh]⟩
     | false =>
       rw[hu] at k1 hdn;rw[hu,if_neg (by simp)] at hst;refine Ab (k1) ?_;simp[hx1,hL,Az];refine Ek (by exact rfl) AM (by exact rfl) (by simp) (by simp[Az,e1]) (by first | (simp;done)|(simp;omega)) ?_;simp[Az,hx1,hL]
       cases hcu:Dk c u with
       | true =>
         rw[hcu] at k2;rw[hcu,if_pos rfl] at hst;refine Ab (k2) ?_;simp[hx1,hL,Az];refine Ek (by exact rfl) AM (by exact rfl) (by simp) (by simp[Az,e1]) (by first | (simp;done)|(simp;omega)) ?_;simp[Az,wi];exact Ae hI hS hμ (i+1) (by omega) (by omega) ⟨[4],by simp[hd2,hdn,ho2,hst,Az,e1,Dh]⟩
       | false =>
         rw[hcu] at k2;rw[hcu,if_neg (by simp)] at hst;refine Ab (k2) ?_;simp[hx1,hL,Az,wi];exact Ae hI hS hμ (i+1) (by omega) (by omega) ⟨[2],by simp[hd2,hdn,ho2,hst,Az,e1,Dh]⟩
 · obtain rfl:i=l.length:=by omega
   generalize KO l c l.length=o at *
   cases hd:VW l c l.length with
   | true =>
     rw[hd,if_pos rfl] at hend;simp[zz3 hlt,hlt];exact⟨[],by simp[hend,Az,e1,Dh]⟩
   | false =>
     rw[hd,if_neg (by simp)] at hend;simp[zz3 hlt,hlt];refine Ek (by exact rfl) AM (by exact rfl) (by simp) (by simp[Az,e1]) (by first | (simp;done)|(simp;omega)) ?_;simp[Az];exact⟨[],by simp[←hend,Az,e1,Dh]⟩
theorem NG {α β:Type} {f:β→α→β} {b:β} {xs:List α} {k:Nat} {x:α} (hx:xs[k]? = some x):(xs.take (k+1)).foldl f b=f ((xs.take k).foldl f b) x:=by
 rw[Ba hx,List.foldl_append];rfl
def Pe (a b:EI) (i:Nat):EI:=(a.take i).foldl (fun l x=>Ll x b l) []
def Ov (a b:EI) (i:Nat) (x:List Int) (j:Nat):EI:=Ll x (b.take j) (Pe a b i)
theorem PE {m:Nat} {a b:EI} (ha:∀ x∈a,RowP m x) (hb:∀ y∈b,RowP m y) (i:Nat):NN (RowP m) (Pe a b i)∧(Pe a b i).length≤a.length*b.length:=by
 obtain⟨h1,h2⟩:=Ig (P:=RowP m) (b:=b) (a.take i) (l:=[]) ⟨List.Pairwise.nil,by simp⟩ fun x hx y hy c hc=>IP (ha x (List.mem_of_mem_take hx)) (hb y hy) hc;refine⟨h1,?_⟩;have:(a.take i).length*b.length≤a.length*b.length:=Nat.mul_le_mul_right _ (by rw[ACC];omega);simp only[List.length_nil,Nat.zero_add] at h2;exact Nat.le_trans h2 this
theorem Xc {m:Nat} {a b:EI} (ha:∀ x∈a,RowP m x) (hb:∀ y∈b,RowP m y) (i:Nat) {x:List Int} (hx:RowP m x) (j:Nat):NN (RowP m) (Ov a b i x j)∧(Ov a b i x j).length≤a.length*b.length+b.length:=by
 obtain⟨h1,h2⟩:=PE ha hb i;obtain⟨h3,h4⟩:=MK (P:=RowP m) (x:=x) (b.take j) h1 fun y hy c hc=>IP hx (hb y (List.mem_of_mem_take hy)) hc;refine⟨h3,?_⟩;have h5:(b.take j).length≤b.length:=by rw[ACC];omega
 unfold Ov;omega
theorem Z4 {a b:EI} {i j:Nat} {x y:List Int} (h:b[j]? = some y):Ov a b i x (j+1)=Rj (Ov a b i x j) (Dz x y):=by
 unfold Ov Ll;rw[NG h]
theorem bA {a b:EI} {i:Nat} {x:List Int} (h:a[i]? = some x):Pe a b (i+1)=Ov a b i x b.length:=by
 unfold Pe Ov;rw[NG h,List.take_length];rfl
def Jx (L:EI) (i:Nat):EI:=(L.take i).filter (G1 L)
theorem cB {L:EI} {i:Nat} {u:List Int} (h:L[i]? = some u):Jx L (i+1)=if G1 L u=true then Jx L i++[u] else Jx L i:=by
 unfold Jx;rw[Ba h,List.filter_append]
 cases hk:G1 L u<;>simp[hk]
theorem Xz {L:EI} {i:Nat} (h:(Jx L i).length=7):(L.filter (G1 L)).take 7=Jx L i:=by
 have e:L.filter (G1 L)=Jx L i++(L.drop i).filter (G1 L):=by
  unfold Jx;rw[←List.filter_append,List.take_append_drop]
 rw[e,←h,List.take_left'];rfl
theorem iG {L:EI} (h:(Jx L L.length).length≤7):(L.filter (G1 L)).take 7=Jx L L.length:=by
 unfold Jx at h ⊢;rw[List.take_length] at h ⊢;exact AB8 h
def Q6 (L:EI) (u:List Int) (k:Nat):Bool:=(L.take k).all fun v=>!WA v u
theorem Zv {L:EI} {u v:List Int} {k:Nat} (h:L[k]? = some v):Q6 L u (k+1)=(Q6 L u k&&!WA v u):=C6 (p:=fun v=>!WA v u) h
theorem cC {L:EI} {u:List Int} {k i:Nat} (hk:k≤i) (h:Q6 L u k=false):Q6 L u i=false:=by
 unfold Q6 at h ⊢;rw[List.all_eq_false] at h ⊢;obtain⟨v,hv,hh⟩:=h;refine⟨v,?_,hh⟩;have:L.take k=(L.take i).take k:=by rw[List.take_take];congr 1;omega
 rw[this] at hv;exact List.mem_of_mem_take hv
theorem TQ (a b:EI) (m:Nat) (la:a.length≤8) (lb:b.length≤8) (ha:∀ x∈a,RowP m x) (hb:∀ y∈b,RowP m y):CG Tryz.prog 108 [Si a,Si b] [] (.ref 0) [.arr 26 false ((Hu a b).map Az)]:=by
 have hab:a.length*b.length≤64:=Nat.mul_le_mul la lb;have hJ:Hu a b=((Pe a b a.length).filter (G1 (Pe a b a.length))).take 7:=by unfold Hu RD Pe;rw[List.take_length]
 obtain⟨J,hJJ⟩:∃ J,Hu a b=J:=⟨_,rfl⟩;rw[hJJ] at hJ ⊢;refine DZ (by kernel_rfl) Tryz.func108 rfl rfl rfl (by simp[Bi,Later]) (by simp[BN,Ah.live]) ?_;simp[Si,oU];refine AH [true,true,false,false,false,true,true] (fun i:Nat=>i≤a.length) (fun i:Nat=>[(5,.d (Dh 26 Az (Pe a b i))),(6,.d (.int .i64 i))]) (fun i:Nat=>fun _=>[]) (fun i:Nat=>a.length - i) 0 ?_ ?_ ?_
 · exact Nat.zero_le _
 · exact⟨[],by simp[Pe]⟩
 rintro I S μ hI hS hμ i hi;by_cases hlt:i<a.length
 · have hx1:a[i]? = some a[i]:=zz0 hlt;have hxP:=ha _ (ABt hlt);have hsI:=bA (b:=b) hx1;have wi:IntKind.i64.wrap ((i:Int)+1)=((i+1:Nat):Int):=by rw[Ad (by omega) (by omega)];omega
   generalize a[i]=x at *;have hLx:(Az x).length=1:=rfl;simp[zz2 hlt];refine AB [true,true,false,false,false,true,true,true] (fun j:Nat=>j≤b.length) (fun j:Nat=>[(5,.d (Dh 26 Az (Ov a b i x j))),(7,.d (.int .i64 j))]) (fun j:Nat=>[]) (fun j:Nat=>b.length - j) 0 ?_ ?_ ?_
   · exact Nat.zero_le _
   · exact⟨[],by simp[Ov,Ll]⟩
   rintro I1 S1 μ1 hI1 hS1 hμ1 j hj;by_cases hlj:j<b.length
   · have hy1:b[j]? = some b[j]:=zz0 hlj;have hyP:=hb _ (ABt hlj);have hsJ:=Z4 (a:=a) (i:=i) (x:=x) hy1;have wj:IntKind.i64.wrap ((j:Int)+1)=((j+1:Nat):Int):=by rw[Ad (by omega) (by omega)];omega
     obtain⟨g1,g2⟩:=Xc ha hb i hxP j;generalize b[j]=y at *;have hLy:(Az y).length=1:=rfl;have km:=Xa x y m hxP hyP;obtain⟨l2,hl2⟩:∃ l2,Ov a b i x (j+1)=l2:=⟨_,rfl⟩;rw[hl2] at hsJ;generalize Ov a b i x j=L at *
     cases hm:Dz x y with
     | none =>
       rw[hm] at km hsJ;simp[zz2 hlj];refine⟨by kernel_rfl,?_⟩;simp[hx1,hy1,hLx,hLy,Az];refine Ab (km) ?_;simp[wj];exact Ae hI1 hS1 hμ1 (j+1) (by omega) (by omega) ⟨[],by simp[hl2,hsJ,Rj]⟩
     | some c =>
       rw[hm] at km hsJ;have hcP:=IP hxP hyP hm;have kA:=VO L c (by omega) (fun u hu=>(g1.all u hu).2.1) hcP.2.1 g1.sort;simp[zz2 hlj];refine⟨by kernel_rfl,?_⟩;simp[hx1,hy1,hLx,hLy,Az];refine Ab (km) ?_;simp;refine Ac (kA) [0] [] (by simp) ?_;simp[wj];exact Ae hI1 hS1 hμ1 (j+1) (by omega) (by omega) ⟨[],by simp[hl2,hsJ,Rj]⟩
   · obtain rfl:j=b.length:=by omega
     simp[zz3 hlj,hlj,wi];exact Ae hI hS hμ (i+1) (by omega) (by omega) ⟨[],by simp[hsI]⟩
 obtain rfl:i=a.length:=by omega
 clear hI hS hμ;obtain⟨g1,g2⟩:=PE ha hb a.length;generalize Pe a b a.length=L at *;have hL64:L.length≤64:=by omega
 simp[zz3 hlt,hlt];refine AB [false,false,false,false,false,true,false,false,false,false,true,true] (fun i:Nat=>i≤L.length∧(Jx L i).length≤7) (fun i:Nat=>[(11,.d (.int .i64 i))]) (fun i:Nat=>[(0,.arr 26 false ((Jx L i).map Az))]) (fun i:Nat=>L.length - i) 0 ?_ ?_ ?_
 · exact⟨Nat.zero_le _,by simp[Jx]⟩
 · exact⟨[0],by simp[Jx]⟩
 rintro I S μ hI hS hμ i ⟨hi,h7⟩;by_cases hli:i<L.length
 case neg =>
  obtain rfl:i=L.length:=by omega
  have hA:=iG h7;rw[hA] at hJ;simp[zz3 hli,hli];exact⟨[0],by simp[hJ]⟩
 by_cases hl7:(Jx L i).length<7
 case neg =>
  have hA:=Xz (L:=L) (i:=i) (by omega);have h7n:¬ ((Jx L i).length:Int)<7:=by omega
  rw[hA] at hJ;simp[zz2 hli,h7n,zz3 h7n];exact⟨[0],by simp[hJ]⟩
 have hu1:L[i]? = some L[i]:=zz0 hli;have huP:=g1.all _ (ABt hli);have hfs:=cB hu1;have hkt:=SX g1.sort hu1;have wi:IntKind.i64.wrap ((i:Int)+1)=((i+1:Nat):Int):=by rw[Ad (by omega) (by omega)];omega
 generalize L[i]=u at *;have hLu:(Az u).length=1:=rfl;have h7y:((Jx L i).length:Int)<7:=by omega
 change G1 L u=Q6 L u i at hkt
 simp[zz2 hli,h7y,zz2 h7y];refine AB [false,false,false,false,false,true,false,false,false,false,true,true,true,true] (fun k:Nat=>k≤i) (fun k:Nat=>[(12,.d (.bool (Q6 L u k))),(13,.d (.int .i64 k))]) (fun k:Nat=>[]) (fun k:Nat=>i - k) 0 ?_ ?_ ?_
 · exact Nat.zero_le _
 · exact⟨[0],by simp[Q6]⟩
 rintro I3 S3 μ3 hI3 hS3 hμ3 k hk;by_cases hlk:k<i
 case neg =>
  obtain rfl:k=i:=by omega
  rw[←hkt]
  cases hkp:G1 L u with
  | true =>
    rw[hkp,if_pos rfl] at hfs;simp[zz3 hlk,hlk,hu1,hLu,Az];refine Ek (by exact rfl) AM (by exact rfl) (by simp) (by simp[Az,e1]) (by first | (simp;done)|(simp;omega)) ?_;simp[Az,wi];exact Ae hI hS hμ (k+1) ⟨by omega,by rw[hfs];simp;omega⟩ (by omega) ⟨[2],by simp[hfs,Az,e1,Dh]⟩
  | false =>
    rw[hkp,if_neg (by simp)] at hfs;simp[zz3 hlk,hlk,wi];exact Ae hI hS hμ (k+1) ⟨by omega,by rw[hfs];exact h7⟩ (by omega) ⟨[0],by simp[hfs]⟩
 cases hw:Q6 L u k with
 | false =>
   have hkf:G1 L u=false:=by rw[hkt];exact cC (by omega) hw
   rw[hkf,if_neg (by simp)] at hfs;simp[zz2 hlk,wi];exact Ae hI hS hμ (i+1) ⟨by omega,by rw[hfs];exact h7⟩ (by omega) ⟨[0],by simp[hfs]⟩
 | true =>
   have hv1:L[k]? = some (L[k]'(by omega)):=zz0 _;have hvP:=g1.all _ (zz6 hv1);have hds:=Zv (u:=u) hv1;rw[hw,Bool.true_and] at hds;have wk:IntKind.i64.wrap ((k:Int)+1)=((k+1:Nat):Int):=by rw[Ad (by omega) (by omega)];omega
   generalize L[k]'(by omega)=v at *;have hLv:(Az v).length=1:=rfl;have kw:=Q4 v u (by have:=hvP.2.1;omega) (by have:=huP.2.1;omega);have hdm:WA v u=(decide (v.length<u.length)&&KK v u):=rfl;obtain⟨a2,ha2⟩:∃ a2,Q6 L u (k+1)=a2:=⟨_,rfl⟩;rw[ha2] at hds;simp[zz2 hlk];refine⟨by kernel_rfl,?_⟩;by_cases hvu:v.length<u.length
   · rw[zz2 hvu,Bool.true_and] at hdm;rw[hdm] at hds;simp[hv1,hu1,hLv,hLu,Az,zz2 hvu];refine Ab (kw) ?_;simp[wk];exact Ae hI3 hS3 hμ3 (k+1) (by omega) (by omega) ⟨[0],by simp[ha2,hds]⟩
   · rw[zz3 hvu,Bool.false_and] at hdm;rw[hdm] at hds;simp[hv1,hu1,hLv,hLu,Az,zz3 hvu,wk];exact Ae hI3 hS3 hμ3 (k+1) (by omega) (by omega) ⟨[0],by simp[ha2,hds]⟩
def cS (rs:EI):List D:=e1 Zf rs
abbrev Lb (x:AK) (k:Nat):List EI:=Hc (Aa x) (CF x) (CP x) k
theorem Tt {x:AK} {k i:Nat} (h:i≤k):∃ l,(Lb x k)[i]? = some l:=⟨_,zz0 (by rw[EX];omega)⟩
theorem Wr (x:AK) (v:Nat) (hx:Cz 1048576 x) (hok:Al x=true) (hv:v<A0 x):CG Tryz.prog 97 [oL x,.d (.int .i64 v)] [] (.ref 0) [.arr 32 false ((Lb x v).map cS)]:=by
 obtain⟨⟨n1,n2,n3,n4,n5,n6⟩,-,-,-⟩:=AA hok;obtain⟨hF,hgl,hNi,hno⟩:=A7 hok;have hN:=Bp x;have hfp:0<Aa x:=by unfold Aa;omega
 refine BA (by kernel_rfl) Tryz.func97 rfl rfl rfl (by simp[Bi,Later]) (by simp[BN,Ah.live]) ?_;simp[Ao];refine AB [false,true,true,false,false,true,true] (fun k:Nat=>1≤k∧k≤v+1) (fun k:Nat=>[(6,.d (.int .i64 k))]) (fun k:Nat=>[(3,.arr 32 false ((Lb x (k - 1)).map cS))]) (fun k:Nat=>v+1 - k) 1 ?_ ?_ ?_
 · omega
 · exact⟨[0,1,2,3],by simp[Hc,cS,Dh,e1,Az]⟩
 rintro I S μ hI hS hμ k ⟨hk1,hk2⟩;obtain⟨j,rfl⟩:∃ j,k=j+1:=⟨k - 1,by omega⟩;rw[Nat.add_sub_cancel];have hal:(Lb x j).length=j+1:=EX j;have hst:Lb x (j+1)=Lb x j++[PX (Aa x) (CF x) (CP x) (Lb x j) (j+1)]:=rfl;obtain⟨k,hk⟩:∃ k,k=j+1:=⟨_,rfl⟩;have hkc:((j:Int)+1)=(k:Int):=by omega
 have hkc2:((j+1:Nat):Int)=(k:Int):=by omega
 rw[hkc2];rw[←hk] at hst hk2;by_cases hlt:k≤v
 case neg =>
  obtain rfl:v=j:=by omega
  simp[show ¬ (k:Int)≤(v:Int) by omega];exact⟨[3],by simp⟩
 have hkv:(k:Int)≤(v:Int):=by omega
 have wk:IntKind.i64.wrap ((k:Int)+1)=((k+1:Nat):Int):=by rw[Ad (by omega) (by omega)];omega
 by_cases hkF:k<Aa x
 · have he:PX (Aa x) (CF x) (CP x) (Lb x j) k=[[(k:Int)]]:=by unfold PX;rw[if_neg (by omega)];rfl
   rw[he] at hst;simp[hkv];refine Ab (BE x ⟨n1,n2⟩ n3) ?_;simp[show ¬ (1+x.1+(x.2.1.length:Int))≤(k:Int) by omega]
   first | refine Bs (q:=1) AM (by exact rfl) (by simp) (by exact rfl) (by exact rfl) (by simp) (by simp) (by first | (simp;done)|(simp;omega)) ?_|refine Br AM (by exact rfl) (by simp) (by exact rfl) (by simp) (by first | (simp;done)|(simp;omega)) ?_
   simp;refine Ek (by exact rfl) RF (by exact rfl) (by simp) (by simp[Az,e1]) (by first | (simp;done)|(simp;omega)) ?_;simp[Az,wk];exact Ae hI hS hμ (k+1) ⟨by omega,by omega⟩ (by omega) ⟨[0,1,2,9],by simp[hst,cS,Az,e1,Dh,AC]⟩
 · have hkN:k<A0 x:=by omega
   obtain⟨ha,a1,a2,a3,a4,a5,a6⟩:=CW hok (v:=k) (by omega) hkN;have hL2:(At (Aj x k)).length=2:=rfl;have wf:IntKind.i64.wrap ((k:Int) - (1+x.1+(x.2.1.length:Int)))=((k - Aa x:Nat):Int):=by rw[Ad (by omega) (by omega)];omega
   have q1:IntKind.i64.wrap ((Aj x k).1.tdiv 2)=(CF x k:Int):=by rw[Int.tdiv_eq_ediv_of_nonneg a1,a3];exact Ad (by omega) (by omega)
   have q2:IntKind.i64.wrap ((Aj x k).2.tdiv 2)=(CP x k:Int):=by rw[Int.tdiv_eq_ediv_of_nonneg a2,a4];exact Ad (by omega) (by omega)
   obtain⟨lA,hlA⟩:=Tt (x:=x) (k:=j) (i:=CF x k) (by omega);obtain⟨lB,hlB⟩:=Tt (x:=x) (k:=j) (i:=CP x k) (by omega);have rA:=QT (DX hok) j (by omega) _ _ hlA;have rB:=QT (DX hok) j (by omega) _ _ hlB
   have he:PX (Aa x) (CF x) (CP x) (Lb x j) k=Hu lA lB++[[(k:Int)]]:=by
    unfold PX;rw[if_pos (by omega),hlA,hlB];rfl
   rw[he] at hst;have kj:=TQ lA lB j rA.1 rB.1 (fun c hc=>(rA.2 c hc).mono (by omega)) (fun c hc=>(rB.2 c hc).mono (by omega));have hjl:=Nz (a:=lA) (b:=lB);have hLA:(cS lA).length=1:=rfl;have hLB:(cS lB).length=1:=rfl;generalize Hu lA lB=J at *;generalize CF x k=ka at *;generalize CP x k=kb at *;generalize Aj x k=an at *;simp[hkv];refine Ab (BE x ⟨n1,n2⟩ n3) ?_;simp[show (1+x.1+(x.2.1.length:Int))≤(k:Int) by omega];refine AJ 9 (by kernel_rfl) ?_;simp;refine Ab (BE x ⟨n1,n2⟩ n3) ?_;simp[wf,ha,hL2,At];refine AJ 12 (by kernel_rfl) ?_;simp[q1,q2,hlA,hlB,hLA,hLB,cS];refine Ac (kj) [] [] (by simp) ?_;simp;refine Ek (by exact rfl) AM (by exact rfl) (by simp) (by simp[Az,e1]) (by first | (simp;done)|(simp;omega)) ?_;simp[Az];refine Ek (by exact rfl) RF (by exact rfl) (by simp) (by simp[Az,e1]) (by first | (simp;done)|(simp;omega)) ?_;simp[Az,wk];exact Ae hI hS hμ (k+1) ⟨by omega,by omega⟩ (by omega) ⟨[0,1,2,11],by simp[hst,cS,Az,e1,Dh,AC]⟩
end Go.Proofs.YtnjedabjbeipeaaGreat
