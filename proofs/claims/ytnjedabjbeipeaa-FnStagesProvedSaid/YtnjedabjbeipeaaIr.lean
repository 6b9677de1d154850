/-
  The lists of cuts, by the program: the unions of two lists; all nodes. Abstract walks.
  Conditions: those typed in each theorem.
-/
import Derived.Test.YtnjedabjbeipeaaIq
namespace Go.Proofs.Ytnjedabjbeipeaa
open Go.RowKit Go.ChangeShapes Go.WideShapes
set_option linter.unusedSimpArgs false
set_option linter.unusedVariables false
set_option maxRecDepth 100000
set_option maxHeartbeats 10000000
def lV (L:EF):V:=if L=[] then .nil 26 else .ref 0
def lS (L:EF):List Ag:=if L=[] then [] else [.arr 26 false (L.map Aq)]
theorem GK {L:EF} (h:L≠[]):lV L=.ref 0:=if_neg h
theorem GM {L:EF} (h:L≠[]):lS L=[.arr 26 false (L.map Aq)]:=if_neg h
theorem K9:lV []=.nil 26:=rfl
theorem Li:lS []=[]:=rfl
theorem fZ {l:EF} {c:List Int}:Fd l c≠[]:=by
 cases l with
 | nil=>simp[Fd]
 | cons u l=>unfold Fd;split<;>(try split)<;>simp
theorem SH (a b:List Int) (ha:a.length≤1048576) (hb:b.length≤1048576):CI Try.prog 140 [ints a,ints b] (.d (.bool (D1 a b))):=by
 have hB:D1 a b=if a.length=b.length then Jt a b else decide (a.length<b.length):=rfl;refine BD (by kernel_rfl) Try.func140 rfl rfl rfl ?_;by_cases hl:a.length=b.length
 · rw[if_pos hl] at hB;rw[hB];simp[bne,hl];refine AY [true,true,false,false,false,false,false,false,false,false,false,false,false,false,false,false,false,true,true] (fun i:Nat=>i≤a.length∧Jt (a.drop i) (b.drop i)=Jt a b) (fun i:Nat=>[(18,.d (.int .i64 i))]) (fun i:Nat=>[]) (fun i:Nat=>a.length - i) 0 ?_ ?_ ?_
   · exact⟨Nat.zero_le _,rfl⟩
   · exact⟨[],by simp⟩
   rintro I S μ hI hS hμ i ⟨hi,hd⟩;by_cases hlt:i<a.length
   · have hx1:a[i]? = some a[i]:=zz0 hlt;have hx2:b[i]? = some (b[i]'(by omega)):=zz0 _;have hs:=ZF hx1 hx2;have wi:IntKind.i64.wrap ((i:Int)+1)=((i+1:Nat):Int):=by rw[Af (by omega) (by omega)];omega
     generalize a[i]=x at *;generalize b[i]'(by omega)=y at *;have hlt2:i<b.length:=by omega
     rw[hd] at hs;by_cases he:x=y
     · rw[if_pos he] at hs;have hne:(x != y)=false:=by simp[he]
       simp[zz2 hlt,zz2 hlt2,hl];refine⟨by kernel_rfl,?_⟩;simp[hx1,hx2,hne,wi];exact Ae hI hS hμ (i+1) ⟨by omega,hs.symm⟩ (by omega) ⟨[],by simp⟩
     · rw[if_neg he] at hs;have hne:(x != y)=true:=by simp[he]
       rw[hs];simp[zz2 hlt,zz2 hlt2,hl];refine⟨by kernel_rfl,?_⟩;simp[hx1,hx2,hne]
       kernel_rfl
   · obtain rfl:i=a.length:=by omega
     rw[List.drop_eq_nil_of_le (Nat.le_refl _)] at hd;rw[←hd];have hlt2:¬ a.length<b.length:=by omega
     simp[zz3 hlt,zz3 hlt2,hlt,hl,Jt]
 · rw[if_neg hl] at hB;rw[hB];have hne:((a.length:Int) != (b.length:Int))=true:=by simp;omega
   simp[hne]
theorem KM (v u:List Int) (hv:v.length≤1048576) (hu:u.length≤1048576):CI Try.prog 141 [ints u,ints v] (.d (.bool (G3 v u))):=by
 have hW:∀ z,Ob u z=decide (z∈u):=fun _=>rfl;refine BD (by kernel_rfl) Try.func141 rfl rfl rfl ?_;simp;refine AY [true,false,false,false,false,false,false,true,true,true] (fun i:Nat=>i≤v.length∧G3 (v.take i) u=true) (fun i:Nat=>[(9,.d (.int .i64 i))]) (fun i:Nat=>[]) (fun i:Nat=>v.length - i) 0 ?_ ?_ ?_
 · exact⟨Nat.zero_le _,rfl⟩
 · exact⟨[],by simp⟩
 rintro I S μ hI hS hμ i ⟨hi,hd⟩;by_cases hlt:i<v.length
 · have hx1:v[i]? = some v[i]:=zz0 hlt;have hs:=Fu (p:=fun z=>decide (z∈u)) hx1;have hn:=In (p:=fun z=>decide (z∈u)) hx1;have wi:IntKind.i64.wrap ((i:Int)+1)=((i+1:Nat):Int):=by rw[Af (by omega) (by omega)];omega
   generalize v[i]=y at *;have hc:=Xl u y (by omega);rw[hW] at hc;simp[zz2 hlt,hx1]
   cases hy:decide (y∈u) with
   | true =>
     rw[hy] at hc;refine Ab (hc) ?_;simp[wi];exact Ae hI hS hμ (i+1) ⟨by omega,by unfold G3 at hd ⊢;rw[hs,hd,hy];rfl⟩ (by omega) ⟨[],by simp⟩
   | false =>
     rw[hy] at hc;have:G3 v u=false:=hn hy;rw[this];refine Ab (hc) ?_;simp
 · obtain rfl:i=v.length:=by omega
   rw[List.take_length] at hd;rw[hd];simp[zz3 hlt,hlt]
theorem Um (a b:List Int) (ha:a.length≤1048576) (hb:b.length≤1048576) (hl:a.length≠b.length):CI Try.prog 37 [ints a,ints b] (.d (.bool (KQ a b))):=by
 have hs:KQ a b=false:=zz3 fun e=>hl (by rw[e]);have hb1:((a.length:Int)==(b.length:Int))=false:=by simp;omega
 refine BD (by kernel_rfl) Try.func37 rfl rfl rfl ?_;simp[hl,hb1,hs];intro h;exact absurd h (by omega)
theorem Tq (a b:List Int) (ha:a.length≤1048576) (hb:b.length≤1048576):CI Try.prog 37 [ints a,ints b] (.d (.bool (KQ a b))):=by
 by_cases hl:a.length=b.length
 · exact SM a b ha hl
 · exact Um a b ha hb hl
theorem Oe (a b:EF) (m:Nat) (la:a.length≤8) (lb:b.length≤8) (ha:∀ x∈a,RowP m x) (hb:∀ y∈b,RowP m y):BS Try.prog 115 [YZ a,YZ b] [] (YZ ((Iu a b).filter (FK (Iu a b)))) []:=by
 have hab:a.length*b.length≤64:=Nat.mul_le_mul la lb;have hJ:Iu a b=MS a b a.length:=by unfold Iu MS;rw[List.take_length]
 rw[hJ];refine Bl (by kernel_rfl) Try.func115 rfl rfl rfl (by simp[AZ,Later]) (by simp[Bi,Ag.live]) ?_;simp[YZ,DE];refine As [false,true,false,false,false,true,false,false,false,false,false,false,false,false,false,false,false,false,false,true,true,true] (fun i:Nat=>i≤a.length) (fun i:Nat=>[(5,lV (MS a b i)),(21,.d (.int .i64 i))]) (fun i:Nat=>fun _=>lS (MS a b i)) (fun i:Nat=>a.length - i) 0 ?_ ?_ ?_
 · exact Nat.zero_le _
 · exact⟨[],by simp[MS,lV,lS]⟩
 rintro I S μ hI hS hμ i hi;by_cases hlt:i<a.length
 · have hx1:a[i]? = some a[i]:=zz0 hlt;have hxP:=ha _ (AB7 hlt);have hsI:=ZG (b:=b) hx1;have wi:IntKind.i64.wrap ((i:Int)+1)=((i+1:Nat):Int):=by rw[Af (by omega) (by omega)];omega
   generalize a[i]=x at *;have hLx:(Aq x).length=1:=rfl;simp[zz2 hlt,hx1,hLx,Aq,e1,B3];refine As [false,true,false,false,false,true,false,true,false,false,false,false,false,false,false,false,false,false,false,true,true,true,false,false,false,true,true,true] (fun j:Nat=>j≤b.length) (fun j:Nat=>[(5,lV (LL a b i x j)),(27,.d (.int .i64 j))]) (fun j:Nat=>fun _=>lS (LL a b i x j)) (fun j:Nat=>b.length - j) 0 ?_ ?_ ?_
   · exact Nat.zero_le _
   · have e:MS a b i=LL a b i x 0:=rfl;by_cases h0:LL a b i x 0=[]
     · rw[e,h0];exact⟨[],by simp[lV,lS]⟩
     · rw[e,GK h0,GM h0];exact⟨[0],by simp⟩
   rintro I1 S1 μ1 hI1 hS1 hμ1 j hj;by_cases hlj:j<b.length
   · have hy1:b[j]? = some b[j]:=zz0 hlj;have hyP:=hb _ (AB7 hlj);have hsJ:=ZL (a:=a) (i:=i) (x:=x) hy1;have wj:IntKind.i64.wrap ((j:Int)+1)=((j+1:Nat):Int):=by rw[Af (by omega) (by omega)];omega
     obtain⟨g1,g2⟩:=Xd ha hb i hxP j;generalize b[j]=y at *;have hLy:(Aq y).length=1:=rfl;have km:=Ve x y m hxP hyP;obtain⟨l2,hl2⟩:∃ l2,LL a b i x (j+1)=l2:=⟨_,rfl⟩;rw[hl2] at hsJ;generalize LL a b i x j=L at *;have dj:=zz2 hlj;by_cases h0:L=[]
     · subst h0;rw[K9,Li]
       cases hm:CY x y with
       | none =>
         rw[hm] at km hsJ;have hsJ':l2=[]:=hsJ;simp[dj,hy1,hLy,Aq,e1,B3];refine Ac (km) [] [] (by simp) ?_;simp[wj];exact Ae hI1 hS1 hμ1 (j+1) (by omega) (by omega) ⟨[],by simp[hl2,hsJ',K9,Li]⟩
       | some u =>
         rw[hm] at km hsJ;have hsJ':l2=[u]:=hsJ;have huP:=HE hxP hyP hm;simp[dj,hy1,hLy,Aq,e1,B3];refine Ac (km) [] [] (by simp) ?_;simp;refine As [false,true,false,false,false,true,false,true,false,false,true,false,true,false,false,false,false,false,false,true,true,true,false,false,false,true,true,true] (fun p:Nat=>p=0) (fun p:Nat=>[(12,.d (.int .i64 p))]) (fun p:Nat=>fun _=>[]) (fun p:Nat=>0) 0 ?_ ?_ ?_
         · rfl
         · exact⟨[],by simp⟩
         rintro I2 S2 μ2 hI2 hS2 hμ2 p rfl;simp;refine C6 (by exact rfl) AK (by exact rfl) (by simp) (by simp[Aq,e1]) (by first | (simp;done)|(simp;omega)) ?_;simp;refine K8 (dA:=68) (dB:=69) (dC:=70) (dD:=71) (dE:=72) (dF:=73) (dG:=74) (dH:=75) 1 26 _ 0 (by kernel_rfl) (by exact rfl) (by decide) (by simp) (by exact rfl) (by exact rfl) AK (by simp) (by simp) (by kernel_rfl) (by exact rfl) (by simp) ?_;simp[forgetL,W8,wj];exact Ae hI1 hS1 hμ1 (j+1) (by omega) (by omega) ⟨[1],by simp[hl2,hsJ',lV,lS,Aq,e1,B3]⟩
     · rw[GK h0,GM h0]
       cases hm:CY x y with
       | none =>
         rw[hm] at km hsJ;have hsJ':l2=L:=hsJ;simp[dj,hy1,hLy,Aq,e1,B3];refine Ac (km) [] [] (by simp) ?_;simp[wj];exact Ae hI1 hS1 hμ1 (j+1) (by omega) (by omega) ⟨[0],by simp[hl2,hsJ',GK h0,GM h0]⟩
       | some u =>
         rw[hm] at km hsJ;have hsJ':l2=Fd L u:=hsJ;have huP:=HE hxP hyP hm;have hne2:l2≠[]:=by rw[hsJ'];exact fZ
         have hLl:L.length≤72:=by omega
         simp[dj,hy1,hLy,Aq,e1,B3];refine Ac (km) [] [] (by simp) ?_;simp;refine As [false,true,false,false,false,true,false,true,false,false,true,false,true,false,false,false,false,false,false,true,true,true,false,false,false,true,true,true] (fun p:Nat=>p≤L.length∧∀ v∈L.take p,D1 v u=true) (fun p:Nat=>[(12,.d (.int .i64 p))]) (fun p:Nat=>fun _=>[.arr 26 false (L.map Aq)]) (fun p:Nat=>L.length - p) 0 ?_ ?_ ?_
         · exact⟨Nat.zero_le _,by simp⟩
         · exact⟨[0],by simp⟩
         rintro I2 S2 μ2 hI2 hS2 hμ2 p ⟨hp,hpa⟩;by_cases hpl:p<L.length
         case neg =>
          obtain rfl:p=L.length:=by omega
          have hin:=X5 hpa (.inl rfl);obtain⟨Z,hZ⟩:∃ Z,Ff (L.map Aq++[[D.sl 0 []]]) L.length=Z:=⟨_,rfl⟩;have hset:Z.set L.length [D.sl 3 (u.map (e1 Az))]=l2.map Aq:=by rw[hsJ',hin,←hZ];exact Rm hp
          have hz3:Z.length=L.length+1:=by rw[←hZ,E5 (by simp<;>omega)];simp
          have hpz:L.length<L.length+1:=by omega
          obtain⟨c0,hz1⟩:∃ c0,Z[L.length]? = some c0:=⟨_,zz0 (by omega)⟩
          have hz2:c0.length=1:=by
           have h:=hz1;rw[←hZ,KG (by simp) (by simp<;>omega),if_pos (Nat.le_refl _)] at h;rcases ACE.1 (zz6 h) with h|h
           · exact Ry _ h
           · simp at h;rw[h];rfl
          obtain⟨d0,rfl⟩:=List.length_eq_one_iff.1 hz2;have hz4:Z[L.length]'(by omega)=[d0]:=ACW ((zz0 (by omega)).symm.trans hz1);simp[hpl,zz3 hpl];refine C6 (by exact rfl) AK (by exact rfl) (by simp) (by simp[Aq,e1]) (by first | (simp;done)|(simp;omega)) ?_;simp;refine K8 (dA:=68) (dB:=69) (dC:=70) (dD:=71) (dE:=72) (dF:=73) (dG:=74) (dH:=75) 2 26 _ L.length (by kernel_rfl) (by exact rfl) (by decide) (by simp) (by exact rfl) (by exact rfl) AK (by simp) (by simp) (by kernel_rfl) (by exact rfl) (by simp) ?_;simp[forgetL,hZ,hz1,hz4,hz3,hset,hpz,wj,Aq];exact Ae hI1 hS1 hμ1 (j+1) (by omega) (by omega) ⟨[2],by simp[hl2,GK hne2,GM hne2]⟩
         have hv1:L[p]? = some L[p]:=zz0 hpl;have hvP:=g1.all _ (AB7 hpl);have hts:=Bh hv1;have hin':D1 L[p] u=false→L[p]≠u→Fd L u=L.take p++u::L.drop p:=fun h1 h2=>X5 hpa (.inr ⟨_,hv1,h1,h2⟩);have hsm':L[p]=u→Fd L u=L:=fun h=>aZ hpa (h▸hv1);have hd2:=zz2 hpl;have w2:IntKind.i64.wrap ((p:Int)+1)=(p:Int)+1:=Af (by omega) (by omega);generalize L[p]=v at *;have hLv:(Aq v).length=1:=rfl;have kl:=SH v u (by have:=hvP.2.1;omega) (by have:=huP.2.1;omega);have ks:=Tq v u (by have:=hvP.2.1;omega) (by have:=huP.2.1;omega)
         cases hb:D1 v u with
         | true =>
           rw[hb] at kl;simp[hd2,hv1,hLv,Aq,e1,B3];refine Ab (kl) ?_;simp[w2]
           exact Ae hI2 hS2 hμ2 (p+1) ⟨by omega,fun z hz=>by
            rw[hts] at hz;rcases ACE.1 hz with hz|hz
            · exact hpa z hz
            · simp at hz;rw[hz];exact hb⟩ (by omega) ⟨[0],by simp⟩
         | false =>
           rw[hb] at kl;by_cases he:v=u
           · have hB:KQ v u=true:=zz2 he;rw[hB] at ks;have hq:l2=L:=by rw[hsJ',hsm' he]
             simp[hd2,hv1,hLv,Aq,e1,B3];refine Ab (kl) ?_;simp[hd2,hv1,hLv,Aq,e1,B3];refine Ab (ks) ?_;simp[wj];exact Ae hI1 hS1 hμ1 (j+1) (by omega) (by omega) ⟨[0],by simp[hl2,hq,GK h0,GM h0]⟩
           · have hB:KQ v u=false:=zz3 he;rw[hB] at ks;have hin:=hin' hb he;obtain⟨Z,hZ⟩:∃ Z,Ff (L.map Aq++[[D.sl 0 []]]) p=Z:=⟨_,rfl⟩;have hset:Z.set p [D.sl 3 (u.map (e1 Az))]=l2.map Aq:=by rw[hsJ',hin,←hZ];exact Rm hp
             have hz3:Z.length=L.length+1:=by rw[←hZ,E5 (by simp<;>omega)];simp
             have hpz:p<L.length+1:=by omega
             obtain⟨c0,hz1⟩:∃ c0,Z[p]? = some c0:=⟨_,zz0 (by omega)⟩
             have hz2:c0.length=1:=by
              have h:=hz1;rw[←hZ,KG (by simp<;>omega) (by simp<;>omega),if_pos (Nat.le_refl _)] at h;rcases ACE.1 (zz6 h) with h|h
              · exact Ry _ h
              · simp at h;rw[h];rfl
             obtain⟨d0,rfl⟩:=List.length_eq_one_iff.1 hz2;have hz4:Z[p]'(by omega)=[d0]:=ACW ((zz0 (by omega)).symm.trans hz1);simp[hd2,hv1,hLv,Aq,e1,B3];refine Ab (kl) ?_;simp[hd2,hv1,hLv,Aq,e1,B3];refine Ab (ks) ?_;simp;refine C6 (by exact rfl) AK (by exact rfl) (by simp) (by simp[Aq,e1]) (by first | (simp;done)|(simp;omega)) ?_;simp;refine K8 (dA:=68) (dB:=69) (dC:=70) (dD:=71) (dE:=72) (dF:=73) (dG:=74) (dH:=75) 2 26 _ p (by kernel_rfl) (by exact rfl) (by decide) (by simp) (by exact rfl) (by exact rfl) AK (by simp) (by simp) (by kernel_rfl) (by exact rfl) (by simp<;>omega) ?_;simp[forgetL,hZ,hz1,hz4,hz3,hset,hpz,wj,Aq];exact Ae hI1 hS1 hμ1 (j+1) (by omega) (by omega) ⟨[2],by simp[hl2,GK hne2,GM hne2]⟩
   · obtain rfl:j=b.length:=by omega
     rw[←hsI];by_cases h0:MS a b (i+1)=[]
     · rw[h0,K9,Li];simp[zz3 hlj,hlj,wi];exact Ae hI hS hμ (i+1) (by omega) (by omega) ⟨[],by simp[h0,K9,Li]⟩
     · rw[GK h0,GM h0];simp[zz3 hlj,hlj,wi];exact Ae hI hS hμ (i+1) (by omega) (by omega) ⟨[0],by simp[GK h0,GM h0]⟩
 obtain rfl:i=a.length:=by omega
 clear hI hS hμ;obtain⟨g1,g2⟩:=OI ha hb a.length;generalize MS a b a.length=L at *;have hL64:L.length≤64:=by omega
 have hfl:∀ k,(MM L k).length≤64:=fun k=>by
  have:=List.length_filter_le (FK L) (L.take k);have h2:(L.take k).length≤L.length:=by simp;omega
  unfold MM;omega
 have hend:MM L L.length=L.filter (FK L):=by unfold MM;rw[List.take_length]
 by_cases h0:L=[]
 · subst h0;rw[K9,Li];have hf0:([]:EF).filter (FK [])=[]:=rfl;simp[zz3 hlt,hlt];refine As [false,false,false,false,false,true,false,false,false,false,false,false,false,true,false,false,false,false,false,false,false,false,false,false,false,false,false,false,false,false,false,false,false,false,false,false,false,false,false,false,false,false,false,false,false,false,false,false,false,false,false,false,false,false,false,false,false,false,false,false,false,false,false,false,false,false,false,false,false,false,false,false,false,false,false,false,false,false,false,false,false,false,true,true,true] (fun i:Nat=>i=0) (fun i:Nat=>[(84,.d (.int .i64 i))]) (fun i:Nat=>fun _=>[]) (fun i:Nat=>0) 0 ?_ ?_ ?_
   · rfl
   · exact⟨[],by simp⟩
   rintro I S μ hI hS hμ i rfl;simp;exact⟨[],by simp⟩
 rw[GK h0,GM h0];simp[zz3 hlt,hlt];refine As [false,false,false,false,false,true,false,false,false,false,false,false,false,true,false,false,false,false,false,false,false,false,false,false,false,false,false,false,false,false,false,false,false,false,false,false,false,false,false,false,false,false,false,false,false,false,false,false,false,false,false,false,false,false,false,false,false,false,false,false,false,false,false,false,false,false,false,false,false,false,false,false,false,false,false,false,false,false,false,false,false,false,true,true,true] (fun i:Nat=>i≤L.length) (fun i:Nat=>[(5,.d (.sl 26 (L.map Aq))),(82,.d (.sl 26 (L.map Aq))),(13,lV (MM L i)),(84,.d (.int .i64 i))]) (fun i:Nat=>fun _=>lS (MM L i)) (fun i:Nat=>L.length - i) 0 ?_ ?_ ?_
 · exact Nat.zero_le _
 · exact⟨[],by simp[MM,lV,lS]⟩
 rintro I S μ hI hS hμ i hi;by_cases hli:i<L.length
 case neg =>
  obtain rfl:i=L.length:=by omega
  rw[hend];by_cases h1:L.filter (FK L)=[]
  · rw[h1,K9,Li];simp[zz3 hli,hli];exact⟨[],by simp⟩
  · rw[GK h1,GM h1];simp[zz3 hli,hli];exact⟨[],by simp⟩
 have hu1:L[i]? = some L[i]:=zz0 hli;have huP:=g1.all _ (AB7 hli);have hfs:=ZP hu1;have hf64:=hfl i;have wi:IntKind.i64.wrap ((i:Int)+1)=((i+1:Nat):Int):=by rw[Af (by omega) (by omega)];omega
 generalize L[i]=u at *;have hLu:(Aq u).length=1:=rfl;have dli:=zz2 hli;have hkd:FK L u=QV L u L.length:=by unfold QV FK;rw[List.take_length]
 obtain⟨o2,ho2⟩:∃ o2,MM L (i+1)=o2:=⟨_,rfl⟩;rw[ho2] at hfs;generalize MM L i=O at *;obtain⟨vO,hvO⟩:∃ vO,lV O=vO:=⟨_,rfl⟩;obtain⟨sO,hsO⟩:∃ sO,lS O=sO:=⟨_,rfl⟩;by_cases h1:O=[]
 · subst h1;rw[K9,Li];simp[dli,hu1,hLu,Aq,e1,B3];refine As [false,false,false,false,false,true,false,false,false,false,false,false,false,true,false,true,true,false,false,false,false,false,false,false,false,false,false,false,false,false,false,false,false,false,false,false,false,false,false,false,false,false,false,false,false,false,false,false,false,false,false,false,false,false,false,false,false,false,false,false,false,false,false,false,false,false,false,false,false,false,false,false,false,false,false,false,false,false,false,false,false,false,true,true,true,false,false,false,true,true,true] (fun k:Nat=>k≤L.length) (fun k:Nat=>[(16,.d (.bool (QV L u k))),(90,.d (.int .i64 k))]) (fun k:Nat=>fun _=>[]) (fun k:Nat=>L.length - k) 0 ?_ ?_ ?_
   · exact Nat.zero_le _
   · exact⟨[],by simp[QV]⟩
   rintro I3 S3 μ3 hI3 hS3 hμ3 k hk;by_cases hlk:k<L.length
   case neg =>
    obtain rfl:k=L.length:=by omega
    rw[←hkd]
    cases hkp:FK L u with
    | true =>
      rw[hkp,if_pos rfl] at hfs;simp[zz3 hlk,hlk];refine C6 (by exact rfl) AK (by exact rfl) (by simp) (by simp[Aq,e1]) (by first | (simp;done)|(simp;omega)) ?_;simp[wi];exact Ae hI hS hμ (i+1) (by omega) (by omega) ⟨[1],by simp[ho2,hfs,lV,lS,Aq,e1,B3]⟩
    | false =>
      rw[hkp,if_neg (by simp)] at hfs;simp[zz3 hlk,hlk,wi];exact Ae hI hS hμ (i+1) (by omega) (by omega) ⟨[],by simp[ho2,hfs,lV,lS]⟩
   have hv1:L[k]? = some L[k]:=zz0 hlk;have hvP:=g1.all _ (AB7 hlk);have hds:=RY (u:=u) hv1;have wk:IntKind.i64.wrap ((k:Int)+1)=((k+1:Nat):Int):=by rw[Af (by omega) (by omega)];omega
   generalize L[k]=v at *;have hLv:(Aq v).length=1:=rfl;have kw:=KM v u (by have:=hvP.2.1;omega) (by have:=huP.2.1;omega);have hdm:SE v u=(decide (v.length<u.length)&&G3 v u):=rfl;obtain⟨a2,ha2⟩:∃ a2,QV L u (k+1)=a2:=⟨_,rfl⟩;rw[ha2] at hds;have dlk:=zz2 hlk;by_cases hvu:v.length<u.length
   · rw[zz2 hvu,Bool.true_and] at hdm;rw[hdm] at hds
     cases hw:G3 v u with
     | true =>
       rw[hw] at kw hds;simp[dlk,hv1,hLv,Aq,e1,B3,zz2 hvu];refine Ab (kw) ?_;simp[wk];exact Ae hI3 hS3 hμ3 (k+1) (by omega) (by omega) ⟨[],by simp[ha2,hds]⟩
     | false =>
       rw[hw] at kw hds;simp[dlk,hv1,hLv,Aq,e1,B3,zz2 hvu];refine Ab (kw) ?_;simp[wk];exact Ae hI3 hS3 hμ3 (k+1) (by omega) (by omega) ⟨[],by simp[ha2,hds]⟩
   · rw[zz3 hvu,Bool.false_and] at hdm;rw[hdm] at hds;simp[dlk,hv1,hLv,Aq,e1,B3,zz3 hvu,wk];exact Ae hI3 hS3 hμ3 (k+1) (by omega) (by omega) ⟨[],by simp[ha2,hds]⟩
 · rw[GK h1,GM h1];simp[dli,hu1,hLu,Aq,e1,B3];refine As [false,false,false,false,false,true,false,false,false,false,false,false,false,true,false,true,true,false,false,false,false,false,false,false,false,false,false,false,false,false,false,false,false,false,false,false,false,false,false,false,false,false,false,false,false,false,false,false,false,false,false,false,false,false,false,false,false,false,false,false,false,false,false,false,false,false,false,false,false,false,false,false,false,false,false,false,false,false,false,false,false,false,true,true,true,false,false,false,true,true,true] (fun k:Nat=>k≤L.length) (fun k:Nat=>[(16,.d (.bool (QV L u k))),(90,.d (.int .i64 k))]) (fun k:Nat=>fun _=>[.arr 26 false (O.map Aq)]) (fun k:Nat=>L.length - k) 0 ?_ ?_ ?_
   · exact Nat.zero_le _
   · exact⟨[0],by simp[QV]⟩
   rintro I3 S3 μ3 hI3 hS3 hμ3 k hk;by_cases hlk:k<L.length
   case neg =>
    obtain rfl:k=L.length:=by omega
    rw[←hkd]
    cases hkp:FK L u with
    | true =>
      rw[hkp,if_pos rfl] at hfs;simp[zz3 hlk,hlk];refine C6 (by exact rfl) AK (by exact rfl) (by simp) (by simp[Aq,e1]) (by first | (simp;done)|(simp;omega)) ?_;simp[wi];exact Ae hI hS hμ (i+1) (by omega) (by omega) ⟨[2],by simp[ho2,hfs,lV,lS,Aq,e1,B3]⟩
    | false =>
      rw[hkp,if_neg (by simp)] at hfs;simp[zz3 hlk,hlk,wi];exact Ae hI hS hμ (i+1) (by omega) (by omega) ⟨[0],by simp[ho2,hfs,GK h1,GM h1]⟩
   have hv1:L[k]? = some L[k]:=zz0 hlk;have hvP:=g1.all _ (AB7 hlk);have hds:=RY (u:=u) hv1;have wk:IntKind.i64.wrap ((k:Int)+1)=((k+1:Nat):Int):=by rw[Af (by omega) (by omega)];omega
   generalize L[k]=v at *;have hLv:(Aq v).length=1:=rfl;have kw:=KM v u (by have:=hvP.2.1;omega) (by have:=huP.2.1;omega);have hdm:SE v u=(decide (v.length<u.length)&&G3 v u):=rfl;obtain⟨a2,ha2⟩:∃ a2,QV L u (k+1)=a2:=⟨_,rfl⟩;rw[ha2] at hds;have dlk:=zz2 hlk;by_cases hvu:v.length<u.length
   · rw[zz2 hvu,Bool.true_and] at hdm;rw[hdm] at hds
     cases hw:G3 v u with
     | true =>
       rw[hw] at kw hds;simp[dlk,hv1,hLv,Aq,e1,B3,zz2 hvu];refine Ab (kw) ?_;simp[wk];exact Ae hI3 hS3 hμ3 (k+1) (by omega) (by omega) ⟨[0],by simp[ha2,hds]⟩
     | false =>
       rw[hw] at kw hds;simp[dlk,hv1,hLv,Aq,e1,B3,zz2 hvu];refine Ab (kw) ?_;simp[wk];exact Ae hI3 hS3 hμ3 (k+1) (by omega) (by omega) ⟨[0],by simp[ha2,hds]⟩
   · rw[zz3 hvu,Bool.false_and] at hdm;rw[hdm] at hds;simp[dlk,hv1,hLv,Aq,e1,B3,zz3 hvu,wk];exact Ae hI3 hS3 hμ3 (k+1) (by omega) (by omega) ⟨[0],by simp[ha2,hds]⟩
end Go.Proofs.Ytnjedabjbeipeaa
