/-
  Selections of cuts, by abstract walks: the reference's unions and order.
  Conditions: those typed in each theorem.
-/
import Derived.Test.YtnjedabjbeipeaaGreatGa
import Derived.Test.YtnjedabjbeipeaaGreatNo
namespace Go.Proofs.YtnjedabjbeipeaaGreat
open Go.RowKit Go.ChangeShapes Go.WideShapes
set_option linter.unusedSimpArgs false
set_option linter.unusedVariables false
set_option maxRecDepth 100000
set_option maxHeartbeats 10000000
theorem YO {xs:List Int} (h:Mm xs) {i:Nat} {y z:Int} (h1:xs[i]? = some y) (h2:xs[i+1]? = some z):y<z:=by
 obtain⟨a,a'⟩:=zz1.1 h1;obtain⟨b,b'⟩:=zz1.1 h2;have:=List.pairwise_iff_getElem.1 h i (i+1) a b (by omega)
 rwa [a',b'] at this
theorem K5 (xs:List Int) (m:Nat) (h:RowP m xs):Bx Tryz.prog 121 [ints xs] (.d (.bool true)):=by
 obtain⟨h1,h2,h3⟩:=h;refine A5 (by kernel_rfl) Tryz.func121 rfl rfl rfl ?_;simp;refine AB [true,false,false,true] (fun i:Nat=>i≤xs.length) (fun i:Nat=>[(3,.d (.int .i64 i))]) (fun i:Nat=>[]) (fun i:Nat=>xs.length - i) 0 ?_ ?_ ?_
 · exact Nat.zero_le _
 · exact⟨[],by simp⟩
 rintro I S μ hI hS hμ i hi;by_cases hlt:i<xs.length
 · have hx1:xs[i]? = some xs[i]:=zz0 hlt;have hp:=(h3 _ (ABt hlt)).1;have wi:IntKind.i64.wrap ((i:Int)+1)=((i+1:Nat):Int):=by rw[Ad (by omega) (by omega)];omega
   cases i with
   | zero =>
     generalize xs[0]=y at *;simp[hx1,zz2 hlt];refine⟨by kernel_rfl,?_⟩;simp[hx1,show ¬ y<0 by omega,zz3 (show ¬ y<0 by omega),wi,show IntKind.i64.wrap 1=1 from rfl];exact Ae hI hS hμ 1 (by omega) (by omega) ⟨[],by simp⟩
   | succ j =>
     have hx0:xs[j]? = some (xs[j]'(by omega)):=zz0 _;have hlt2:=YO h1 hx0 hx1;generalize hyy:xs[j+1]=y at *;generalize hzz:xs[j]'(by omega)=z at *;obtain⟨i,hij⟩:∃ i,i=j+1:=⟨_,rfl⟩;rw[←hij] at hx1 hlt wi hi ⊢;have wj:IntKind.i64.wrap ((i:Int) - 1)=(j:Int):=by rw[Ad (by omega) (by omega)];omega
     have hi0:0<i:=by omega
     simp[hx1,zz2 hlt];refine⟨by kernel_rfl,?_⟩;simp[hx1,hx0,wj,show ¬ y<0 by omega,zz3 (show ¬ y<0 by omega),hi0,zz2 hi0,show ¬ y≤z by omega,zz3 (show ¬ y≤z by omega),wi];exact Ae hI hS hμ (i+1) (by omega) (by omega) ⟨[],by simp⟩
 · obtain rfl:i=xs.length:=by omega
   simp[zz3 hlt,hlt]
theorem ZP {a b:List Int} {i:Nat} {x y:Int} (h1:a[i]? = some x) (h2:b[i]? = some y):KM (a.drop i) (b.drop i)=if x=y then KM (a.drop (i+1)) (b.drop (i+1)) else decide (x<y):=by
 obtain⟨p,p'⟩:=zz1.1 h1;obtain⟨q,q'⟩:=zz1.1 h2;rw[List.drop_eq_getElem_cons p,List.drop_eq_getElem_cons q,p',q'];rfl
theorem L8 (a b:List Int) (ha:a.length≤1048576) (hb:b.length≤1048576):Bx Tryz.prog 122 [ints a,ints b] (.d (.bool (Dk a b))):=by
 have hB:Dk a b=if a.length=b.length then KM a b else decide (a.length<b.length):=rfl;refine A5 (by kernel_rfl) Tryz.func122 rfl rfl rfl ?_;by_cases hl:a.length=b.length
 · rw[if_pos hl] at hB;rw[hB];simp[bne,hl];refine AB [true,true,false,false,false,true] (fun i:Nat=>i≤a.length∧KM (a.drop i) (b.drop i)=KM a b) (fun i:Nat=>[(5,.d (.int .i64 i))]) (fun i:Nat=>[]) (fun i:Nat=>a.length - i) 0 ?_ ?_ ?_
   · exact⟨Nat.zero_le _,rfl⟩
   · exact⟨[],by simp⟩
   rintro I S μ hI hS hμ i ⟨hi,hd⟩;by_cases hlt:i<a.length
   · have hx1:a[i]? = some a[i]:=zz0 hlt;have hx2:b[i]? = some (b[i]'(by omega)):=zz0 _;have hs:=ZP hx1 hx2;have wi:IntKind.i64.wrap ((i:Int)+1)=((i+1:Nat):Int):=by rw[Ad (by omega) (by omega)];omega
     generalize a[i]=x at *;generalize b[i]'(by omega)=y at *;have hlt2:i<b.length:=by omega
     rw[hd] at hs;by_cases he:x=y
     · rw[if_pos he] at hs;have hne:(x != y)=false:=by simp[he]
       simp[zz2 hlt,zz2 hlt2,hl];refine⟨by kernel_rfl,?_⟩;simp[hx1,hx2,hne,wi];exact Ae hI hS hμ (i+1) ⟨by omega,hs.symm⟩ (by omega) ⟨[],by simp⟩
     · rw[if_neg he] at hs;have hne:(x != y)=true:=by simp[he]
       rw[hs];simp[zz2 hlt,zz2 hlt2,hl];refine⟨by kernel_rfl,?_⟩;simp[hx1,hx2,hne]
       kernel_rfl
   · obtain rfl:i=a.length:=by omega
     rw[List.drop_eq_nil_of_le (Nat.le_refl _)] at hd;rw[←hd];have hlt2:¬ a.length<b.length:=by omega
     simp[zz3 hlt,zz3 hlt2,hlt,hl,KM]
 · rw[if_neg hl] at hB;rw[hB];have hne:((a.length:Int) != (b.length:Int))=true:=by simp;omega
   simp[hne]
theorem Q4 (v u:List Int) (hv:v.length≤1048576) (hu:u.length≤1048576):Bx Tryz.prog 118 [ints v,ints u] (.d (.bool (KK v u))):=by
 have hW:∀ z,KP u z=decide (z∈u):=fun _=>rfl;refine A5 (by kernel_rfl) Tryz.func118 rfl rfl rfl ?_;simp;refine AB [true,true,false,false,false,true] (fun i:Nat=>i≤v.length∧KK (v.take i) u=true) (fun i:Nat=>[(5,.d (.int .i64 i))]) (fun i:Nat=>[]) (fun i:Nat=>v.length - i) 0 ?_ ?_ ?_
 · exact⟨Nat.zero_le _,rfl⟩
 · exact⟨[],by simp⟩
 rintro I S μ hI hS hμ i ⟨hi,hd⟩;by_cases hlt:i<v.length
 · have hx1:v[i]? = some v[i]:=zz0 hlt;have hs:=C6 (p:=fun z=>decide (z∈u)) hx1;have hn:=EO (p:=fun z=>decide (z∈u)) hx1;have wi:IntKind.i64.wrap ((i:Int)+1)=((i+1:Nat):Int):=by rw[Ad (by omega) (by omega)];omega
   generalize v[i]=y at *;have hc:=I0 u y (by omega);rw[hW] at hc;simp[zz2 hlt,hx1]
   cases hy:decide (y∈u) with
   | true =>
     rw[hy] at hc;refine Ab (hc) ?_;simp[wi];exact Ae hI hS hμ (i+1) ⟨by omega,by unfold KK at hd ⊢;rw[hs,hd,hy];rfl⟩ (by omega) ⟨[],by simp⟩
   | false =>
     rw[hy] at hc;have:KK v u=false:=hn hy;rw[this];refine Ab (hc) ?_;simp
 · obtain rfl:i=v.length:=by omega
   rw[List.take_length] at hd;rw[hd];simp[zz3 hlt,hlt]
theorem XC {a b:List Int} {i j:Nat} {x y:Int} (h1:a[i]? = some x) (h2:b[j]? = some y) :
 Cc (a.drop i) (b.drop j)=if x<y then x::Cc (a.drop (i+1)) (b.drop j) else if y<x then y::Cc (a.drop i) (b.drop (j+1)) else x::Cc (a.drop (i+1)) (b.drop (j+1)):=by
 obtain⟨p,p'⟩:=zz1.1 h1;obtain⟨q,q'⟩:=zz1.1 h2;rw[List.drop_eq_getElem_cons p,List.drop_eq_getElem_cons q,p',q',H3]
theorem Ww {a b:List Int} {i:Nat} {x:Int} (h1:a[i]? = some x):Cc (a.drop i) (b.drop b.length)=x::Cc (a.drop (i+1)) (b.drop b.length):=by
 obtain⟨p,p'⟩:=zz1.1 h1;rw[List.drop_eq_nil_of_le (Nat.le_refl _),Gr,Gr,List.drop_eq_getElem_cons p,p']
theorem UG {a b:List Int} {j:Nat} {y:Int} (h1:b[j]? = some y):Cc (a.drop a.length) (b.drop j)=y::Cc (a.drop a.length) (b.drop (j+1)):=by
 obtain⟨p,p'⟩:=zz1.1 h1;rw[List.drop_eq_nil_of_le (Nat.le_refl _),GS,GS,List.drop_eq_getElem_cons p,p']
def ABV (a b:List Int) (s:Nat×Nat×List Int):Prop:=s.1≤a.length∧s.2.1≤b.length∧s.2.2.length≤4∧s.2.2++Cc (a.drop s.1) (b.drop s.2.1)=Cc a b
theorem VB {a b:List Int} (h:(Cc a b).length≤4):Dz a b=some (Cc a b):=if_pos h
theorem NH {a b:List Int} (h:¬ (Cc a b).length≤4):Dz a b=none:=if_neg h
theorem Xa (a b:List Int) (m:Nat) (ha:RowP m a) (hb:RowP m b):Bx Tryz.prog 116 [ints a,ints b] (.tup [ints ((Dz a b).getD []),.d (.bool (Dz a b).isSome)]):=by
 have ka:=K5 a m ha;have kb:=K5 b m hb;have la:=ha.2.1;have lb:=hb.2.1;refine A5 (by kernel_rfl) Tryz.func116 rfl rfl rfl ?_;simp;refine Ab (ka) ?_;simp;refine Ab (kb) ?_;simp;refine AB [true,true,false,false,false,false,true,true,true] (fun s:Nat×Nat×List Int=>ABV a b s) (fun s:Nat×Nat×List Int=>[(7,.d (.int .i64 s.1)),(8,.d (.int .i64 s.2.1))]) (fun s:Nat×Nat×List Int=>[(0,.arr 3 true (s.2.2.map (e1 AC)))]) (fun s:Nat×Nat×List Int=>a.length - s.1+(b.length - s.2.1)) (0,0,[]) ?_ ?_ ?_
 · exact⟨Nat.zero_le _,Nat.zero_le _,by simp,rfl⟩
 · exact⟨[0],by simp⟩
 rintro I S μ hI hS hμ ⟨i,j,o⟩ ⟨hi,hj,ho,hm⟩;simp only at hi hj ho hm;have wi:IntKind.i64.wrap ((i:Int)+1)=((i+1:Nat):Int):=by rw[Ad (by omega) (by omega)];omega
 have wj:IntKind.i64.wrap ((j:Int)+1)=((j+1:Nat):Int):=by rw[Ad (by omega) (by omega)];omega
 by_cases hia:i<a.length
 · have hx1:a[i]? = some a[i]:=zz0 hia;have hie:((i:Int)==(a.length:Int))=false:=beq_eq_false_iff_ne.2 (by omega);generalize a[i]=x at *
   have hgt:o.length=4→(Dz a b)=none:=fun h4=>NH (by
    rw[←hm,AB0];have h9:(Cc (a.drop i) (b.drop j)).length≥(a.drop i).length:=(Gk _ _ _ (Nat.le_refl _)).2.1
    rw[List.length_drop] at h9;omega)
   by_cases h4:o.length=4
   · rw[hgt h4];have h4e:((o.length:Int)==4)=true:=by rw[h4];rfl
     simp[zz2 hia,h4e,h4]
   have h4e:((o.length:Int)==4)=false:=beq_eq_false_iff_ne.2 (by omega);by_cases hjb:j<b.length
   · have hx2:b[j]? = some b[j]:=zz0 hjb;have hje:((j:Int)==(b.length:Int))=false:=beq_eq_false_iff_ne.2 (by omega);generalize b[j]=y at *;rw[XC hx1 hx2] at hm;by_cases hxy:x<y
     · rw[if_pos hxy] at hm;simp[zz2 hia,h4e];refine⟨by kernel_rfl,?_⟩;simp[hje,hx1,hx2,zz2 hia,hxy,zz2 hxy];refine Ak As rfl (by simp) rfl (by simp) (by simp) (by first | (simp;done)|(simp;omega)) (by simp[AR,AL]) ?_;simp[wi];exact Ae hI hS hμ (i+1,j,o++[x]) ⟨by simp only;omega,by simp only;omega,by simp;omega,by rw[AB2];exact hm⟩ (by simp;omega) ⟨[2],by simp[e1,AC]⟩
     · rw[if_neg hxy] at hm;by_cases hyx:y<x
       · rw[if_pos hyx] at hm;simp[zz2 hia,h4e];refine⟨by kernel_rfl,?_⟩;simp[hje,hx1,hx2,zz2 hia,hxy,zz3 hxy];refine⟨by kernel_rfl,?_⟩;simp[hie,hx1,hx2,hyx,zz2 hyx,show ¬ x≤y by omega];refine Ak As rfl (by simp) rfl (by simp) (by simp) (by first | (simp;done)|(simp;omega)) (by simp[AR,AL]) ?_;simp[wj];exact Ae hI hS hμ (i,j+1,o++[y]) ⟨by simp only;omega,by simp only;omega,by simp;omega,by rw[AB2];exact hm⟩ (by simp;omega) ⟨[2],by simp[e1,AC]⟩
       · rw[if_neg hyx] at hm;simp[zz2 hia,h4e];refine⟨by kernel_rfl,?_⟩;simp[hje,hx1,hx2,zz2 hia,hxy,zz3 hxy];refine⟨by kernel_rfl,?_⟩;simp[hie,hx1,hx2,hyx,zz3 hyx,show x≤y by omega];refine Ak As rfl (by simp) rfl (by simp) (by simp) (by first | (simp;done)|(simp;omega)) (by simp[AR,AL]) ?_;simp[wi,wj];exact Ae hI hS hμ (i+1,j+1,o++[x]) ⟨by simp only;omega,by simp only;omega,by simp;omega,by rw[AB2];exact hm⟩ (by simp;omega) ⟨[2],by simp[e1,AC]⟩
   · obtain rfl:j=b.length:=by omega
     have hje:((b.length:Int)==(b.length:Int))=true:=by simp
     rw[Ww hx1] at hm;simp[zz2 hia,h4e];refine⟨by kernel_rfl,?_⟩;simp[hx1];refine Ak As rfl (by simp) rfl (by simp) (by simp) (by first | (simp;done)|(simp;omega)) (by simp[AR,AL]) ?_;simp[wi];exact Ae hI hS hμ (i+1,b.length,o++[x]) ⟨by simp only;omega,by simp only;omega,by simp;omega,by rw[AB2];exact hm⟩ (by simp;omega) ⟨[2],by simp[e1,AC]⟩
 · obtain rfl:i=a.length:=by omega
   by_cases hjb:j<b.length
   · have hx2:b[j]? = some b[j]:=zz0 hjb;have hje:((j:Int)==(b.length:Int))=false:=beq_eq_false_iff_ne.2 (by omega);generalize b[j]=y at *
     have hgt:o.length=4→(Dz a b)=none:=fun h4=>NH (by
      rw[←hm,AB0];have h9:(Cc (a.drop a.length) (b.drop j)).length≥(b.drop j).length:=(Gk _ _ _ (Nat.le_refl _)).2.2
      rw[List.length_drop] at h9;omega)
     by_cases h4:o.length=4
     · rw[hgt h4];have h4e:((o.length:Int)==4)=true:=by rw[h4];rfl
       simp[zz2 hjb,h4e,h4]
     have h4e:((o.length:Int)==4)=false:=beq_eq_false_iff_ne.2 (by omega);rw[UG hx2] at hm;simp[zz2 hjb,h4e];refine⟨by kernel_rfl,?_⟩;simp[hje,hx2];refine⟨by kernel_rfl,?_⟩;refine Ak As rfl (by simp) rfl (by simp) (by simp) (by first | (simp;done)|(simp;omega)) (by simp[AR,AL]) ?_;simp[wj];exact Ae hI hS hμ (a.length,j+1,o++[y]) ⟨by simp only;omega,by simp only;omega,by simp;omega,by rw[AB2];exact hm⟩ (by simp;omega) ⟨[2],by simp[e1,AC]⟩
   · obtain rfl:j=b.length:=by omega
     rw[List.drop_eq_nil_of_le (Nat.le_refl _),List.drop_eq_nil_of_le (Nat.le_refl _),Gr,List.append_nil] at hm;have hO:=VB (a:=a) (b:=b) (by rw[←hm];exact ho);rw[←hm] at hO;rw[hO];simp
end Go.Proofs.YtnjedabjbeipeaaGreat
