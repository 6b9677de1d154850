/-
  Selections of cuts, by abstract walks: the reference's candidates and selections.
  Conditions: those typed in each theorem.
-/
import Derived.Test.YtnjedabjbeipeaaGreatGb
namespace Go.Proofs.YtnjedabjbeipeaaGreat
open Go.RowKit Go.ChangeShapes Go.WideShapes
set_option linter.unusedSimpArgs false
set_option linter.unusedVariables false
set_option maxRecDepth 100000
set_option maxHeartbeats 10000000
theorem NQ:∀ {p q:Fc} {c:List Int},(∀ u∈p,Dt u c=true)→GO (p++q) c=p++GO q c
 | [],q,c,_=>rfl
 | u::p,q,c,h=>by
   have e:GO (u::p++q) c=if Dt u c=true then u::GO (p++q) c else if u=c then u::(p++q) else c::u::(p++q):=rfl;rw[e,if_pos (h u (by simp)),NQ fun v hv=>h v (by simp[hv])];rfl
theorem Tu:∀ {p:Fc} {c u:List Int},(∃ v∈p,Dt v c=false)→GO (p++[u]) c=GO p c++[u]
 | [],c,u,h=>by obtain⟨v,hv,_⟩:=h;cases hv
 | w::p,c,u,h=>by
   have e:GO (w::p++[u]) c=if Dt w c=true then w::GO (p++[u]) c else if w=c then w::(p++[u]) else c::w::(p++[u]):=rfl;have e2:GO (w::p) c=if Dt w c=true then w::GO p c else if w=c then w::p else c::w::p:=rfl;rw[e,e2];by_cases hw:Dt w c=true
   · rw[if_pos hw,if_pos hw,Tu]
     · rfl
     · obtain⟨v,hv,hl⟩:=h;rcases List.mem_cons.1 hv with rfl|hv
       · rw[hw] at hl;cases hl
       · exact⟨v,hv,hl⟩
   · rw[if_neg hw,if_neg hw];split<;>rfl
def Vn (l:Fc) (c:List Int) (i:Nat):Bool:=(l.take i).any fun u=>!Dt u c
def Lh (l:Fc) (c:List Int) (i:Nat):Fc:=if Vn l c i=true then GO (l.take i) c else l.take i
theorem VI {l:Fc} {c u:List Int} {i:Nat} (h:l[i]? = some u):Vn l c (i+1)=(Vn l c i||!Dt u c):=by
 unfold Vn;rw[Bb h,List.any_append];simp
theorem iF {l:Fc} {c:List Int} {i:Nat} (h:Vn l c i=false):∀ u∈l.take i,Dt u c=true:=fun u hu=>by
 unfold Vn at h;have:=List.any_eq_false.1 h u hu;simpa using this
theorem nY {l:Fc} {c:List Int} {i:Nat} (h:Vn l c i=true):∃ v∈l.take i,Dt v c=false:=by
 unfold Vn at h;obtain⟨v,hv,hl⟩:=List.any_eq_true.1 h;exact⟨v,hv,by simpa using hl⟩
theorem iV {l:Fc} {c:List Int} {i:Nat} (hs:OX l):(Lh l c i).length≤l.length+1:=by
 unfold Lh;split
 · have:=(L3 (l:=l.take i) (c:=c) (hs.sublist (List.take_sublist _ _))).2.2;have h2:(l.take i).length≤l.length:=by rw[Gf];omega
   omega
 · rw[Gf];omega
theorem aO {l:Fc} {c u:List Int} {i:Nat} (h:l[i]? = some u) :
 Lh l c (i+1)=if Vn l c i=true then Lh l c i++[u] else if Dt u c=true then Lh l c i++[u] else if Dt c u=true then Lh l c i++[c]++[u] else Lh l c i++[c]:=by
 unfold Lh;rw[VI h,Bb h]
 cases hd:Vn l c i with
 | true =>
   simp only[Bool.true_or,if_true];exact Tu (nY hd)
 | false =>
   simp only[Bool.false_or,Bool.false_eq_true,if_false]
   cases hu:Dt u c with
   | true=>simp
   | false =>
     simp only[Bool.not_false,if_true,Bool.false_eq_true,if_false];rw[NQ (iF hd)];have e:GO [u] c=if Dt u c=true then u::GO [] c else if u=c then [u] else [c,u]:=rfl;rw[e,hu,if_neg (by simp)]
     cases hc:Dt c u with
     | true =>
       rw[if_neg (fun h=>by subst h;rw[hc] at hu;cases hu)];simp
     | false =>
       have:=ST hu hc;rw[if_pos this,this];simp
theorem gG {l:Fc} {c:List Int}:(if Vn l c l.length=true then Lh l c l.length else Lh l c l.length++[c])=GO l c:=by
 unfold Lh;rw[List.take_length]
 cases hd:Vn l c l.length with
 | true=>simp
 | false =>
   have h:=iF hd;rw[List.take_length] at h;have e:=NQ (q:=[]) h;rw[List.append_nil] at e;simp only[Bool.false_eq_true,if_false];rw[e];rfl
abbrev pS (c:List Int):V:=.d (Dr 3 (e1 AC) c)
abbrev Sh (l:Fc):V:=.d (Zv l)
theorem Wi (l:Fc) (c:List Int) (hl:l.length≤1000) (h4:∀ u∈l,u.length≤4) (hc:c.length≤4) (hs:OX l):CM Tryz.prog 117 [Sh l,pS c] [] (Sh (GO l c)) []:=by
 have hend:=gG (l:=l) (c:=c);refine Ec (by kernel_rfl) Tryz.func117 rfl rfl rfl (by simp[Bl,Later]) (by simp[BP,Ah.live]) ?_;simp[Sh,pS];refine AB [true,true,false,false,false,true,true,true] (fun i:Nat=>i≤l.length) (fun i:Nat=>[(6,.d (.bool (Vn l c i))),(7,.d (.int .i64 i))]) (fun i:Nat=>[(0,.arr 26 false ((Lh l c i).map Az))]) (fun i:Nat=>l.length - i) 0 ?_ ?_ ?_
 · exact Nat.zero_le _
 · exact⟨[0],by simp[Vn,Lh]⟩
 rintro I S μ hI hS hμ i hi;have hol:=iV (c:=c) (i:=i) hs;by_cases hlt:i<l.length
 · have hx1:l[i]? = some l[i]:=A1 hlt;have hu4:=h4 _ (Dv hlt);have hst:=aO (c:=c) hx1;have hdn:=VI (c:=c) hx1;have wi:IntKind.i64.wrap ((i:Int)+1)=((i+1:Nat):Int):=by rw[Ad (by omega) (by omega)];omega
   generalize l[i]=u at *;have hL:(Az u).length=1:=rfl;have k1:=MP u c (by omega) (by omega);have k2:=MP c u (by omega) (by omega);obtain⟨o2,ho2⟩:∃ o2,Lh l c (i+1)=o2:=⟨_,rfl⟩;rw[ho2] at hst;obtain⟨d2,hd2⟩:∃ d2,Vn l c (i+1)=d2:=⟨_,rfl⟩;rw[hd2] at hdn;generalize Lh l c i=o at *;generalize Vn l c i=dn at *
   cases dn with
   | true =>
     rw[if_pos rfl] at hst;rw[Bool.true_or] at hdn;simp[A8 hlt,hx1,hL,Az];refine Ev (by exact rfl) AM (by exact rfl) (by simp) (by simp[Az,e1]) (by first | (simp;done)|(simp;omega)) ?_;simp[Az,wi];exact Ae hI hS hμ (i+1) (by omega) (by omega) ⟨[2],by simp[hd2,hdn,ho2,hst,Az,e1,Dr]⟩
   | false =>
     rw[if_neg (by simp)] at hst;rw[Bool.false_or] at hdn;simp[A8 hlt,hx1,hL,Az]
     cases hu:Dt u c with
     | true =>
       rw[hu] at k1 hdn;rw[hu,if_pos rfl] at hst;refine Ab (k1) ?_;simp[hx1,hL,Az];refine Ev (by exact rfl) AM (by exact rfl) (by simp) (by simp[Az,e1]) (by first | (simp;done)|(simp;omega)) ?_;simp[Az,wi];exact Ae hI hS hμ (i+1) (by omega) (by omega) ⟨[2],by simp[hd2,hdn,ho2,hst,Az,e1,Dr]⟩
     | false =>
       rw[hu] at k1 hdn;rw[hu,if_neg (by simp)] at hst;refine Ab (k1) ?_;simp[hx1,hL,Az];refine Ev (by exact rfl) AM (by exact rfl) (by simp) (by simp[Az,e1]) (by first | (simp;done)|(simp;omega)) ?_;simp[Az,hx1,hL]
       cases hcu:Dt c u with
       | true =>
         rw[hcu] at k2;rw[hcu,if_pos rfl] at hst;refine Ab (k2) ?_;simp[hx1,hL,Az];refine Ev (by exact rfl) AM (by exact rfl) (by simp) (by simp[Az,e1]) (by first | (simp;done)|(simp;omega)) ?_;simp[Az,wi];exact Ae hI hS hμ (i+1) (by omega) (by omega) ⟨[4],by simp[hd2,hdn,ho2,hst,Az,e1,Dr]⟩
       | false =>
         rw[hcu] at k2;rw[hcu,if_neg (by simp)] at hst;refine Ab (k2) ?_;simp[hx1,hL,Az,wi];exact Ae hI hS hμ (i+1) (by omega) (by omega) ⟨[2],by simp[hd2,hdn,ho2,hst,Az,e1,Dr]⟩
 · obtain rfl:i=l.length:=by omega
   generalize Lh l c l.length=o at *
   cases hd:Vn l c l.length with
   | true =>
     rw[hd,if_pos rfl] at hend;simp[BH hlt,hlt];exact⟨[],by simp[hend,Az,e1,Dr]⟩
   | false =>
     rw[hd,if_neg (by simp)] at hend;simp[BH hlt,hlt];refine Ev (by exact rfl) AM (by exact rfl) (by simp) (by simp[Az,e1]) (by first | (simp;done)|(simp;omega)) ?_;simp[Az];exact⟨[],by simp[←hend,Az,e1,Dr]⟩
theorem N8 {α β:Type} {f:β→α→β} {b:β} {xs:List α} {k:Nat} {x:α} (hx:xs[k]? = some x):(xs.take (k+1)).foldl f b=f ((xs.take k).foldl f b) x:=by
 rw[Bb hx,List.foldl_append];rfl
def Qo (a b:Fc) (i:Nat):Fc:=(a.take i).foldl (fun l x=>LR x b l) []
def O0 (a b:Fc) (i:Nat) (x:List Int) (j:Nat):Fc:=LR x (b.take j) (Qo a b i)
theorem Qb {m:Nat} {a b:Fc} (ha:∀ x∈a,RowP m x) (hb:∀ y∈b,RowP m y) (i:Nat):OR (RowP m) (Qo a b i)∧(Qo a b i).length≤a.length*b.length:=by
 obtain⟨h1,h2⟩:=I0 (P:=RowP m) (b:=b) (a.take i) (l:=[]) ⟨List.Pairwise.nil,by simp⟩ fun x hx y hy c hc=>JJ (ha x (List.mem_of_mem_take hx)) (hb y hy) hc;refine⟨h1,?_⟩;have:(a.take i).length*b.length≤a.length*b.length:=Nat.mul_le_mul_right _ (by rw[Gf];omega);simp only[List.length_nil,Nat.zero_add] at h2;exact Nat.le_trans h2 this
theorem XH {m:Nat} {a b:Fc} (ha:∀ x∈a,RowP m x) (hb:∀ y∈b,RowP m y) (i:Nat) {x:List Int} (hx:RowP m x) (j:Nat):OR (RowP m) (O0 a b i x j)∧(O0 a b i x j).length≤a.length*b.length+b.length:=by
 obtain⟨h1,h2⟩:=Qb ha hb i;obtain⟨h3,h4⟩:=N5 (P:=RowP m) (x:=x) (b.take j) h1 fun y hy c hc=>JJ hx (hb y (List.mem_of_mem_take hy)) hc;refine⟨h3,?_⟩;have h5:(b.take j).length≤b.length:=by rw[Gf];omega
 unfold O0;omega
theorem cE {a b:Fc} {i j:Nat} {x y:List Int} (h:b[j]? = some y):O0 a b i x (j+1)=R4 (O0 a b i x j) (DM x y):=by
 unfold O0 LR;rw[N8 h]
theorem bG {a b:Fc} {i:Nat} {x:List Int} (h:a[i]? = some x):Qo a b (i+1)=O0 a b i x b.length:=by
 unfold Qo O0;rw[N8 h,List.take_length];rfl
def JW (L:Fc) (i:Nat):Fc:=(L.take i).filter (Hr L)
theorem Z9 {L:Fc} {i:Nat} {u:List Int} (h:L[i]? = some u):JW L (i+1)=if Hr L u=true then JW L i++[u] else JW L i:=by
 unfold JW;rw[Bb h,List.filter_append]
 cases hk:Hr L u<;>simp[hk]
theorem Yv {L:Fc} {i:Nat} (h:(JW L i).length=7):(L.filter (Hr L)).take 7=JW L i:=by
 have e:L.filter (Hr L)=JW L i++(L.drop i).filter (Hr L):=by
  unfold JW;rw[←List.filter_append,List.take_append_drop]
 rw[e,←h,List.take_left'];rfl
theorem gJ {L:Fc} (h:(JW L L.length).length≤7):(L.filter (Hr L)).take 7=JW L L.length:=by
 unfold JW at h ⊢;rw[List.take_length] at h ⊢;exact O6 h
def RY (L:Fc) (u:List Int) (k:Nat):Bool:=(L.take k).all fun v=>!Wh v u
theorem dL {L:Fc} {u v:List Int} {k:Nat} (h:L[k]? = some v):RY L u (k+1)=(RY L u k&&!Wh v u):=De (p:=fun v=>!Wh v u) h
theorem cJ {L:Fc} {u:List Int} {k i:Nat} (hk:k≤i) (h:RY L u k=false):RY L u i=false:=by
 unfold RY at h ⊢;rw[List.all_eq_false] at h ⊢;obtain⟨v,hv,hh⟩:=h;refine⟨v,?_,hh⟩;have:L.take k=(L.take i).take k:=by rw[List.take_take];congr 1;omega
 rw[this] at hv;exact List.mem_of_mem_take hv
theorem Uy (a b:Fc) (m:Nat) (la:a.length≤8) (lb:b.length≤8) (ha:∀ x∈a,RowP m x) (hb:∀ y∈b,RowP m y):CM Tryz.prog 108 [Sh a,Sh b] [] (.ref 0) [.arr 26 false ((HX a b).map Az)]:=by
 have hab:a.length*b.length≤64:=Nat.mul_le_mul la lb;have hJ:HX a b=((Qo a b a.length).filter (Hr (Qo a b a.length))).take 7:=by unfold HX SB Qo;rw[List.take_length]
 obtain⟨J,hJJ⟩:∃ J,HX a b=J:=⟨_,rfl⟩;rw[hJJ] at hJ ⊢;refine Ec (by kernel_rfl) Tryz.func108 rfl rfl rfl (by simp[Bl,Later]) (by simp[BP,Ah.live]) ?_;simp[Sh,pS];refine AJ [true,true,false,false,false,true,true] (fun i:Nat=>i≤a.length) (fun i:Nat=>[(5,.d (Dr 26 Az (Qo a b i))),(6,.d (.int .i64 i))]) (fun i:Nat=>fun _=>[]) (fun i:Nat=>a.length - i) 0 ?_ ?_ ?_
 · exact Nat.zero_le _
 · exact⟨[],by simp[Qo]⟩
 rintro I S μ hI hS hμ i hi;by_cases hlt:i<a.length
 · have hx1:a[i]? = some a[i]:=A1 hlt;have hxP:=ha _ (Dv hlt);have hsI:=bG (b:=b) hx1;have wi:IntKind.i64.wrap ((i:Int)+1)=((i+1:Nat):Int):=by rw[Ad (by omega) (by omega)];omega
   generalize a[i]=x at *;have hLx:(Az x).length=1:=rfl;simp[A8 hlt];refine AB [true,true,false,false,false,true,true,true] (fun j:Nat=>j≤b.length) (fun j:Nat=>[(5,.d (Dr 26 Az (O0 a b i x j))),(7,.d (.int .i64 j))]) (fun j:Nat=>[]) (fun j:Nat=>b.length - j) 0 ?_ ?_ ?_
   · exact Nat.zero_le _
   · exact⟨[],by simp[O0,LR]⟩
   rintro I1 S1 μ1 hI1 hS1 hμ1 j hj;by_cases hlj:j<b.length
   · have hy1:b[j]? = some b[j]:=A1 hlj;have hyP:=hb _ (Dv hlj);have hsJ:=cE (a:=a) (i:=i) (x:=x) hy1;have wj:IntKind.i64.wrap ((j:Int)+1)=((j+1:Nat):Int):=by rw[Ad (by omega) (by omega)];omega
     obtain⟨g1,g2⟩:=XH ha hb i hxP j;generalize b[j]=y at *;have hLy:(Az y).length=1:=rfl;have km:=Yo x y m hxP hyP;obtain⟨l2,hl2⟩:∃ l2,O0 a b i x (j+1)=l2:=⟨_,rfl⟩;rw[hl2] at hsJ;generalize O0 a b i x j=L at *
     cases hm:DM x y with
     | none =>
       rw[hm] at km hsJ;simp[A8 hlj];refine⟨by kernel_rfl,?_⟩;simp[hx1,hy1,hLx,hLy,Az];refine Ab (km) ?_;simp[wj];exact Ae hI1 hS1 hμ1 (j+1) (by omega) (by omega) ⟨[],by simp[hl2,hsJ,R4]⟩
     | some c =>
       rw[hm] at km hsJ;have hcP:=JJ hxP hyP hm;have kA:=Wi L c (by omega) (fun u hu=>(g1.all u hu).2.1) hcP.2.1 g1.sort;simp[A8 hlj];refine⟨by kernel_rfl,?_⟩;simp[hx1,hy1,hLx,hLy,Az];refine Ab (km) ?_;simp;refine Ac (kA) [0] [] (by simp) ?_;simp[wj];exact Ae hI1 hS1 hμ1 (j+1) (by omega) (by omega) ⟨[],by simp[hl2,hsJ,R4]⟩
   · obtain rfl:j=b.length:=by omega
     simp[BH hlj,hlj,wi];exact Ae hI hS hμ (i+1) (by omega) (by omega) ⟨[],by simp[hsI]⟩
 obtain rfl:i=a.length:=by omega
 clear hI hS hμ;obtain⟨g1,g2⟩:=Qb ha hb a.length;generalize Qo a b a.length=L at *;have hL64:L.length≤64:=by omega
 simp[BH hlt,hlt];refine AB [false,false,false,false,false,true,false,false,false,false,true,true] (fun i:Nat=>i≤L.length∧(JW L i).length≤7) (fun i:Nat=>[(11,.d (.int .i64 i))]) (fun i:Nat=>[(0,.arr 26 false ((JW L i).map Az))]) (fun i:Nat=>L.length - i) 0 ?_ ?_ ?_
 · exact⟨Nat.zero_le _,by simp[JW]⟩
 · exact⟨[0],by simp[JW]⟩
 rintro I S μ hI hS hμ i ⟨hi,h7⟩;by_cases hli:i<L.length
 case neg =>
  obtain rfl:i=L.length:=by omega
  have hA:=gJ h7;rw[hA] at hJ;simp[BH hli,hli];exact⟨[0],by simp[hJ]⟩
 by_cases hl7:(JW L i).length<7
 case neg =>
  have hA:=Yv (L:=L) (i:=i) (by omega);have h7n:¬ ((JW L i).length:Int)<7:=by omega
  rw[hA] at hJ;simp[A8 hli,h7n,BH h7n];exact⟨[0],by simp[hJ]⟩
 have hu1:L[i]? = some L[i]:=A1 hli;have huP:=g1.all _ (Dv hli);have hfs:=Z9 hu1;have hkt:=TD g1.sort hu1;have wi:IntKind.i64.wrap ((i:Int)+1)=((i+1:Nat):Int):=by rw[Ad (by omega) (by omega)];omega
 generalize L[i]=u at *;have hLu:(Az u).length=1:=rfl;have h7y:((JW L i).length:Int)<7:=by omega
 change Hr L u=RY L u i at hkt
 simp[A8 hli,h7y,A8 h7y];refine AB [false,false,false,false,false,true,false,false,false,false,true,true,true,true] (fun k:Nat=>k≤i) (fun k:Nat=>[(12,.d (.bool (RY L u k))),(13,.d (.int .i64 k))]) (fun k:Nat=>[]) (fun k:Nat=>i - k) 0 ?_ ?_ ?_
 · exact Nat.zero_le _
 · exact⟨[0],by simp[RY]⟩
 rintro I3 S3 μ3 hI3 hS3 hμ3 k hk;by_cases hlk:k<i
 case neg =>
  obtain rfl:k=i:=by omega
  rw[←hkt]
  cases hkp:Hr L u with
  | true =>
    rw[hkp,if_pos rfl] at hfs;simp[BH hlk,hlk,hu1,hLu,Az];refine Ev (by exact rfl) AM (by exact rfl) (by simp) (by simp[Az,e1]) (by first | (simp;done)|(simp;omega)) ?_;simp[Az,wi];exact Ae hI hS hμ (k+1) ⟨by omega,by rw[hfs];simp;omega⟩ (by omega) ⟨[2],by simp[hfs,Az,e1,Dr]⟩
  | false =>
    rw[hkp,if_neg (by simp)] at hfs;simp[BH hlk,hlk,wi];exact Ae hI hS hμ (k+1) ⟨by omega,by rw[hfs];exact h7⟩ (by omega) ⟨[0],by simp[hfs]⟩
 cases hw:RY L u k with
 | false =>
   have hkf:Hr L u=false:=by rw[hkt];exact cJ (by omega) hw
   rw[hkf,if_neg (by simp)] at hfs;simp[A8 hlk,wi];exact Ae hI hS hμ (i+1) ⟨by omega,by rw[hfs];exact h7⟩ (by omega) ⟨[0],by simp[hfs]⟩
 | true =>
   have hv1:L[k]? = some (L[k]'(by omega)):=A1 _;have hvP:=g1.all _ (D4 hv1);have hds:=dL (u:=u) hv1;rw[hw,Bool.true_and] at hds;have wk:IntKind.i64.wrap ((k:Int)+1)=((k+1:Nat):Int):=by rw[Ad (by omega) (by omega)];omega
   generalize L[k]'(by omega)=v at *;have hLv:(Az v).length=1:=rfl;have kw:=R8 v u (by have:=hvP.2.1;omega) (by have:=huP.2.1;omega);have hdm:Wh v u=(decide (v.length<u.length)&&KU v u):=rfl;obtain⟨a2,ha2⟩:∃ a2,RY L u (k+1)=a2:=⟨_,rfl⟩;rw[ha2] at hds;simp[A8 hlk];refine⟨by kernel_rfl,?_⟩;by_cases hvu:v.length<u.length
   · rw[A8 hvu,Bool.true_and] at hdm;rw[hdm] at hds;simp[hv1,hu1,hLv,hLu,Az,A8 hvu];refine Ab (kw) ?_;simp[wk];exact Ae hI3 hS3 hμ3 (k+1) (by omega) (by omega) ⟨[0],by simp[ha2,hds]⟩
   · rw[BH hvu,Bool.false_and] at hdm;rw[hdm] at hds;simp[hv1,hu1,hLv,hLu,Az,BH hvu,wk];exact Ae hI3 hS3 hμ3 (k+1) (by omega) (by omega) ⟨[0],by simp[ha2,hds]⟩
def eM (rs:Fc):List D:=e1 Zv rs
abbrev LX (x:AK) (k:Nat):List Fc:=HB (Aa x) (CK x) (CW x) k
theorem Ue {x:AK} {k i:Nat} (h:i≤k):∃ l,(LX x k)[i]? = some l:=⟨_,A1 (by rw[E0];omega)⟩
theorem W7 (x:AK) (v:Nat) (hx:CF 1048576 x) (hok:Al x=true) (hv:v<A0 x):CM Tryz.prog 97 [rC x,.d (.int .i64 v)] [] (.ref 0) [.arr 32 false ((LX x v).map eM)]:=by
 obtain⟨⟨n1,n2,n3,n4,n5,n6⟩,-,-,-⟩:=AA hok;obtain⟨hF,hgl,hNi,hno⟩:=A9 hok;have hN:=Br x;have hfp:0<Aa x:=by unfold Aa;omega
 refine BE (by kernel_rfl) Tryz.func97 rfl rfl rfl (by simp[Bl,Later]) (by simp[BP,Ah.live]) ?_;simp[Ao];refine AB [false,true,true,false,false,true,true] (fun k:Nat=>1≤k∧k≤v+1) (fun k:Nat=>[(6,.d (.int .i64 k))]) (fun k:Nat=>[(3,.arr 32 false ((LX x (k - 1)).map eM))]) (fun k:Nat=>v+1 - k) 1 ?_ ?_ ?_
 · omega
 · exact⟨[0,1,2,3],by simp[HB,eM,Dr,e1,Az]⟩
 rintro I S μ hI hS hμ k ⟨hk1,hk2⟩;obtain⟨j,rfl⟩:∃ j,k=j+1:=⟨k - 1,by omega⟩;rw[Nat.add_sub_cancel];have hal:(LX x j).length=j+1:=E0 j;have hst:LX x (j+1)=LX x j++[PG (Aa x) (CK x) (CW x) (LX x j) (j+1)]:=rfl;obtain⟨k,hk⟩:∃ k,k=j+1:=⟨_,rfl⟩;have hkc:((j:Int)+1)=(k:Int):=by omega
 have hkc2:((j+1:Nat):Int)=(k:Int):=by omega
 rw[hkc2];rw[←hk] at hst hk2;by_cases hlt:k≤v
 case neg =>
  obtain rfl:v=j:=by omega
  simp[show ¬ (k:Int)≤(v:Int) by omega];exact⟨[3],by simp⟩
 have hkv:(k:Int)≤(v:Int):=by omega
 have wk:IntKind.i64.wrap ((k:Int)+1)=((k+1:Nat):Int):=by rw[Ad (by omega) (by omega)];omega
 by_cases hkF:k<Aa x
 · have he:PG (Aa x) (CK x) (CW x) (LX x j) k=[[(k:Int)]]:=by unfold PG;rw[if_neg (by omega)];rfl
   rw[he] at hst;simp[hkv];refine Ab (BJ x ⟨n1,n2⟩ n3) ?_;simp[show ¬ (1+x.1+(x.2.1.length:Int))≤(k:Int) by omega]
   first | refine Bu (q:=1) AM (by exact rfl) (by simp) (by exact rfl) (by exact rfl) (by simp) (by simp) (by first | (simp;done)|(simp;omega)) ?_|refine Bt AM (by exact rfl) (by simp) (by exact rfl) (by simp) (by first | (simp;done)|(simp;omega)) ?_
   simp;refine Ev (by exact rfl) Th (by exact rfl) (by simp) (by simp[Az,e1]) (by first | (simp;done)|(simp;omega)) ?_;simp[Az,wk];exact Ae hI hS hμ (k+1) ⟨by omega,by omega⟩ (by omega) ⟨[0,1,2,9],by simp[hst,eM,Az,e1,Dr,AC]⟩
 · have hkN:k<A0 x:=by omega
   obtain⟨ha,a1,a2,a3,a4,a5,a6⟩:=C3 hok (v:=k) (by omega) hkN;have hL2:(At (Aj x k)).length=2:=rfl;have wf:IntKind.i64.wrap ((k:Int) - (1+x.1+(x.2.1.length:Int)))=((k - Aa x:Nat):Int):=by rw[Ad (by omega) (by omega)];omega
   have q1:IntKind.i64.wrap ((Aj x k).1.tdiv 2)=(CK x k:Int):=by rw[Int.tdiv_eq_ediv_of_nonneg a1,a3];exact Ad (by omega) (by omega)
   have q2:IntKind.i64.wrap ((Aj x k).2.tdiv 2)=(CW x k:Int):=by rw[Int.tdiv_eq_ediv_of_nonneg a2,a4];exact Ad (by omega) (by omega)
   obtain⟨lA,hlA⟩:=Ue (x:=x) (k:=j) (i:=CK x k) (by omega);obtain⟨lB,hlB⟩:=Ue (x:=x) (k:=j) (i:=CW x k) (by omega);have rA:=Rj (Ea hok) j (by omega) _ _ hlA;have rB:=Rj (Ea hok) j (by omega) _ _ hlB
   have he:PG (Aa x) (CK x) (CW x) (LX x j) k=HX lA lB++[[(k:Int)]]:=by
    unfold PG;rw[if_pos (by omega),hlA,hlB];rfl
   rw[he] at hst;have kj:=Uy lA lB j rA.1 rB.1 (fun c hc=>(rA.2 c hc).mono (by omega)) (fun c hc=>(rB.2 c hc).mono (by omega));have hjl:=NG (a:=lA) (b:=lB);have hLA:(eM lA).length=1:=rfl;have hLB:(eM lB).length=1:=rfl;generalize HX lA lB=J at *;generalize CK x k=ka at *;generalize CW x k=kb at *;generalize Aj x k=an at *;simp[hkv];refine Ab (BJ x ⟨n1,n2⟩ n3) ?_;simp[show (1+x.1+(x.2.1.length:Int))≤(k:Int) by omega];refine AH 9 (by kernel_rfl) ?_;simp;refine Ab (BJ x ⟨n1,n2⟩ n3) ?_;simp[wf,ha,hL2,At];refine AH 12 (by kernel_rfl) ?_;simp[q1,q2,hlA,hlB,hLA,hLB,eM];refine Ac (kj) [] [] (by simp) ?_;simp;refine Ev (by exact rfl) AM (by exact rfl) (by simp) (by simp[Az,e1]) (by first | (simp;done)|(simp;omega)) ?_;simp[Az];refine Ev (by exact rfl) Th (by exact rfl) (by simp) (by simp[Az,e1]) (by first | (simp;done)|(simp;omega)) ?_;simp[Az,wk];exact Ae hI hS hμ (k+1) ⟨by omega,by omega⟩ (by omega) ⟨[0,1,2,11],by simp[hst,eM,Az,e1,Dr,AC]⟩
end Go.Proofs.YtnjedabjbeipeaaGreat
