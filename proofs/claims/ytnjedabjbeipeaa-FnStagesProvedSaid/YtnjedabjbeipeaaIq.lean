/-
  The lists of cuts, by the program: parts. Plain lemmas and abstract walks.
  Conditions: those typed in each theorem.
-/
import Derived.Test.YtnjedabjbeipeaaLc
namespace Go.Proofs.Ytnjedabjbeipeaa
open Go.RowKit Go.ChangeShapes Go.WideShapes
set_option linter.unusedSimpArgs false
set_option linter.unusedVariables false
set_option maxRecDepth 100000
set_option maxHeartbeats 10000000
theorem Yf {L:List Int} {x:Int}:∀ {p:Nat},(∀ v∈L.take p,v<x)→(p=L.length∨∃ v,L[p]? = some v∧x<v)→CA L x=L.take p++x::L.drop p:=by
 induction L with
 | nil=>intro p h1 h2;simp[CA]
 | cons y l ih =>
   intro p h1 h2
   cases p with
   | zero =>
     rcases h2 with h2|⟨v,hv,h2⟩
     · simp at h2
     · simp at hv;subst hv;unfold CA;rw[if_neg (by omega),if_neg (by omega)];simp
   | succ p =>
     have hy:=h1 y (by simp);unfold CA;rw[if_pos hy,ih (p:=p) (fun v hv=>h1 v (by simp[hv])) (by simpa using h2)];simp
theorem Zn {L:List Int} {x:Int}:∀ {p:Nat},(∀ v∈L.take p,v<x)→L[p]? = some x→CA L x=L:=by
 induction L with
 | nil=>intro p h1 h2;simp at h2
 | cons y l ih =>
   intro p h1 h2
   cases p with
   | zero =>
     simp at h2;subst h2;unfold CA;rw[if_neg (by omega),if_pos rfl]
   | succ p =>
     have hy:=h1 y (by simp);unfold CA;rw[if_pos hy,ih (p:=p) (fun v hv=>h1 v (by simp[hv])) (by simpa using h2)]
theorem X5 {L:EF} {u:List Int} {p:Nat} (h1:∀ v∈L.take p,D1 v u=true) (h2:p=L.length∨∃ v,L[p]? = some v∧D1 v u=false∧v≠u):Fd L u=L.take p++u::L.drop p:=by
 have e:Fd L u=Fd (L.take p++L.drop p) u:=by rw[List.take_append_drop]
 rw[e,ML h1];rcases h2 with rfl|⟨v,hv,h2,h3⟩
 · simp[Fd]
 · obtain⟨hl,rfl⟩:=zz1.1 hv;rw[List.drop_eq_getElem_cons hl];unfold Fd;rw[if_neg (by simp[h2]),if_neg h3]
theorem aZ {L:EF} {u:List Int} {p:Nat} (h1:∀ v∈L.take p,D1 v u=true) (h2:L[p]? = some u):Fd L u=L:=by
 have e:Fd L u=Fd (L.take p++L.drop p) u:=by rw[List.take_append_drop]
 obtain⟨hl,he⟩:=zz1.1 h2;rw[e,ML h1,List.drop_eq_getElem_cons hl,he];unfold Fd;rw[if_neg (by simp[Zh]),if_pos rfl]
 conv=>rhs;rw[←List.take_append_drop p L,List.drop_eq_getElem_cons hl,he]
theorem Rm {L:EF} {u:List Int} {p:Nat} {z:List D} (hp:p≤L.length):(Ff (L.map Aq++[z]) p).set p (Aq u)=(L.take p++u::L.drop p).map Aq:=by
 have hl:(L.map Aq).length=L.length:=ACH _
 have h1:(L.map Aq++[z]).take (p+1)=(L.map Aq).take p++[(L.map Aq++[z])[p]'(by simp;omega)]:=by
  rw[Bh (zz0 (by simp;omega)),ACN (by omega)]
 have h2:((L.map Aq++[z]).drop p).take ((L.map Aq++[z]).length - p - 1)=(L.map Aq).drop p:=by
  rw[List.drop_append_of_le_length (by omega)];rw[ACN (by simp;omega),ACe (by simp;omega)]
 have h3:((L.map Aq).take p).length=p:=by simp;omega
 unfold Ff;rw[h1,h2,List.set_append_left _ _ (by simp;omega),List.set_append_right _ _ (by omega),h3];simp
theorem W8 {z:List D}:Ff [z] 0=[z]:=rfl
theorem Df (L:List Int) (x:Int) (hL:L.length≤1048576):BS Try.prog 111 [DE L,.d (.int .i64 x)] [] (DE (CA L x)) []:=by
 refine Cv (by kernel_rfl) Try.func111 rfl rfl rfl (by simp[AZ,Later]) (by simp[Bi,Ag.live]) ?_;simp[DE,B3];refine As [true,true,false,false,false,true] (fun p:Nat=>p≤L.length∧∀ v∈L.take p,v<x) (fun p:Nat=>[(0,DE L),(1,.d (.int .i64 x)),(5,.d (.int .i64 p))]) (fun p:Nat=>fun sl=>[]) (fun p:Nat=>L.length - p) 0 ?_ ?_ ?_
 · simp
 · exact⟨[],by simp⟩
 rintro I S μ hI hS hμ p ⟨hp,ha⟩;by_cases hlt:p<L.length
 · have hx1:L[p]? = some L[p]:=zz0 hlt;have hd:=zz2 hlt;have w2:IntKind.i64.wrap ((p:Int)+1)=(p:Int)+1:=Af (by omega) (by omega);have hin:x<L[p]→CA L x=L.take p++x::L.drop p:=fun h=>Yf ha (.inr ⟨_,hx1,h⟩);have hsm:L[p]=x→CA L x=L:=fun h=>Zn ha (h▸hx1);have hts:=Bh hx1;generalize L[p]=y at *;by_cases hv:y<x
   · simp[hd,hx1,hv,w2,DE,B3,e1,Az]
     exact Ae hI hS hμ (p+1) ⟨by omega,fun v h=>by
      rw[hts] at h;rcases ACE.1 h with h|h
      · exact ha v h
      · simp at h;omega⟩ (by omega) ⟨[],by simp⟩
   · by_cases he:y=x
     · subst he;have h2:=hsm rfl;simp[hd,hx1,hv,h2,DE,B3,e1,Az];exact⟨[],by simp⟩
     · have h2:=hin (by omega);have hA:(L.map (e1 Az)).take p=(L.take p).map (e1 Az):=List.map_take.symm;have hB:(L.map (e1 Az)).drop p=(L.drop p).map (e1 Az):=List.map_drop.symm;have hC:(L.map (e1 Az)).take L.length=L.map (e1 Az):=ACe (by simp);have lA:(L.take p).length≤1048576:=by rw[ACL];omega
       have lB:(L.drop p).length≤1048576:=by rw[List.length_drop];omega
       generalize L.take p=A at *;generalize L.drop p=B at *;generalize CA L x=J at *;simp[hd,hx1,hv,he,show (y==x)=false by simpa using he,DE,B3,e1,Az,hp,hA,hB];refine Aw AX rfl (by simp) rfl (by simp) (by simp) (by first | (simp;done)|(simp;omega)) (by simp[Bp,A4]) ?_;simp;refine Aw AX rfl (by simp) rfl (by simp) (by simp) (by first | (simp;done)|(simp;omega)) (by simp[Bp,A4]) ?_;simp[hp,hC,hB];refine Aw AX rfl (by simp) rfl (by simp) (by simp) (by first | (simp;done)|(simp;omega)) (by simp[Bp,A4]) ?_;simp[h2];exact⟨[],by simp[h2]⟩
 · obtain rfl:p=L.length:=by omega
   have h2:CA L x=L++[x]:=by rw[Yf ha (.inl rfl)];simp
   have hA:(L.map (e1 Az)).take L.length=L.map (e1 Az):=ACe (by simp);have hB:(L.map (e1 Az)).drop L.length=[]:=List.drop_of_length_le (by simp);generalize CA L x=J at *;simp[hlt,zz3 hlt,DE,B3,hA,hB];refine Aw AX rfl (by simp) rfl (by simp) (by simp) (by first | (simp;done)|(simp;omega)) (by simp[Bp,A4]) ?_;simp;refine Aw AX rfl (by simp) rfl (by simp) (by simp) (by first | (simp;done)|(simp;omega)) (by simp[Bp,A4]) ?_;simp[hA,hB];refine Aw AX rfl (by simp) rfl (by simp) (by simp) (by first | (simp;done)|(simp;omega)) (by simp[Bp,A4]) ?_;simp[h2];exact⟨[],by simp[h2]⟩
theorem X8 {m:Nat} {a:List Int} (h:RowP m a):QU a=true:=by
 unfold QU;rw[zz8];intro i hi;have hi':=ACJ.1 hi;have h1:a[i]? = some (a[i]'(by omega)):=zz0 _;have h2:a[i+1]? = some (a[i+1]'(by omega)):=zz0 _;have:=YE h.1 h1 h2;rw[Eh h1,show ((i:Int)+1)=((i+1:Nat):Int) by omega,Eh h2];exact zz2 this
theorem Ve (a b:List Int) (m:Nat) (ha:RowP m a) (hb:RowP m b):BS Try.prog 139 [DE a,DE b] [] (.tup [DE ((CY a b).getD []),.d (.bool (CY a b).isSome)]) []:=by
 have la:=ha.2.1;have lb:=hb.2.1;have k1:=Uw a (by omega);have k2:=Uw b (by omega);rw[X8 ha] at k1;rw[X8 hb] at k2;have pa:∀ y,a[0]? = some y→¬ y<0:=fun y h=>by have:=ha.2.2 y (zz6 h);omega
 have pb:∀ y,b[0]? = some y→¬ y<0:=fun y h=>by have:=hb.2.2 y (zz6 h);omega
 have kc:=Lv a (by omega);have hfold:=OQ ha.1 hb.1
 have hlen:∀ k,((b.take k).foldl CA a).length≤4+k:=fun k=>by
  induction k with
  | zero=>simp;omega
  | succ k ih =>
    by_cases hk:k<b.length
    · rw[Ez (zz0 hk)];have:=Hr (a:=(b.take k).foldl CA a) (x:=b[k]);omega
    · have e:b.take k=b:=ACe (by omega);have e2:b.take (k+1)=b:=ACe (by omega);rw[e] at ih;rw[e2];omega
 have hOs:(BE a b).length≤4→CY a b=some (BE a b):=Vg;have hOn:¬ (BE a b).length≤4→CY a b=none:=Uq;generalize CY a b=o at *;refine Cv (by kernel_rfl) Try.func139 rfl rfl rfl (by simp[AZ,Later]) (by simp[Bi,Ag.live]) ?_;simp[DE,B3];refine Ab (k1) ?_;simp[DE,B3];refine Ab (k2) ?_;simp[DE,B3];by_cases za:0<a.length
 · by_cases zb:0<b.length
   · have ha1:a[0]? = some (a[0]'(by omega)):=zz0 _;have ha2:=pa _ ha1;generalize a[0]'(by omega)=a0 at *;have hb1:b[0]? = some (b[0]'(by omega)):=zz0 _;have hb2:=pb _ hb1;generalize b[0]'(by omega)=b0 at *;simp[zz2 za,ha1,ha2,zz2 zb,hb1,hb2];refine Ab (kc) ?_;simp[DE,B3,e1,Az];refine As [false,false,false,false,false,false,true,false,false,false,false,false,false,false,false,false,false,false,false,false,false,false,false,false,false,false,false,false,false,false,false,false,false,false,false,false,false,false,false,false,false,true,true,true] (fun k:Nat=>k≤b.length) (fun k:Nat=>[(6,.d (.sl 3 (((b.take k).foldl CA a).map (e1 Az)))),(43,.d (.int .i64 k))]) (fun k:Nat=>fun _=>[]) (fun k:Nat=>b.length - k) 0 ?_ ?_ ?_
     · exact Nat.zero_le _
     · exact⟨[],by simp⟩
     rintro I S μ hI hS hμ k hk;by_cases hlt:k<b.length
     · have hx1:b[k]? = some b[k]:=zz0 hlt;have hd:=zz2 hlt;have w2:IntKind.i64.wrap ((k:Int)+1)=(k:Int)+1:=Af (by omega) (by omega);have hst:=Ez (f:=CA) (b:=a) hx1;have hl:=hlen k;generalize b[k]=y at *;obtain⟨l2,hl2⟩:∃ l2,(b.take (k+1)).foldl CA a=l2:=⟨_,rfl⟩;rw[hl2] at hst;generalize (b.take k).foldl CA a=l1 at *;have ki:=Df l1 y (by omega);rw[←hst] at ki;simp[hd,hx1];refine Ac (ki) [] [] (by simp) ?_;simp[w2];exact Ae hI hS hμ (k+1) (by omega) (by omega) ⟨[],by simp[hl2,DE,B3]⟩
     · obtain rfl:k=b.length:=by omega
       rw[List.take_length,hfold];by_cases h4:(BE a b).length≤4
       · have ho:=hOs h4;generalize BE a b=L at *;have h4':¬ (4:Int)<(L.length:Int):=by omega
         have h4'':¬ 4<L.length:=by omega
         simp[hlt,h4',h4'',zz3 h4'',ho];exact⟨[],by simp[ho]⟩
       · have ho:=hOn h4;generalize BE a b=L at *;have h4':(4:Int)<(L.length:Int):=by omega
         have h4'':4<L.length:=by omega
         simp[hlt,h4',h4'',zz2 h4'',ho];exact⟨[],by simp[ho]⟩
   · have ha1:a[0]? = some (a[0]'(by omega)):=zz0 _;have ha2:=pa _ ha1;generalize a[0]'(by omega)=a0 at *;simp[zz2 za,ha1,ha2,zz3 zb];refine Ab (kc) ?_;simp[DE,B3,e1,Az];refine As [false,false,false,false,false,false,true,false,false,false,false,false,false,false,false,false,false,false,false,false,false,false,false,false,false,false,false,false,false,false,false,false,false,false,false,false,false,false,false,false,false,true,true,true] (fun k:Nat=>k≤b.length) (fun k:Nat=>[(6,.d (.sl 3 (((b.take k).foldl CA a).map (e1 Az)))),(43,.d (.int .i64 k))]) (fun k:Nat=>fun _=>[]) (fun k:Nat=>b.length - k) 0 ?_ ?_ ?_
     · exact Nat.zero_le _
     · exact⟨[],by simp⟩
     rintro I S μ hI hS hμ k hk;by_cases hlt:k<b.length
     · have hx1:b[k]? = some b[k]:=zz0 hlt;have hd:=zz2 hlt;have w2:IntKind.i64.wrap ((k:Int)+1)=(k:Int)+1:=Af (by omega) (by omega);have hst:=Ez (f:=CA) (b:=a) hx1;have hl:=hlen k;generalize b[k]=y at *;obtain⟨l2,hl2⟩:∃ l2,(b.take (k+1)).foldl CA a=l2:=⟨_,rfl⟩;rw[hl2] at hst;generalize (b.take k).foldl CA a=l1 at *;have ki:=Df l1 y (by omega);rw[←hst] at ki;simp[hd,hx1];refine Ac (ki) [] [] (by simp) ?_;simp[w2];exact Ae hI hS hμ (k+1) (by omega) (by omega) ⟨[],by simp[hl2,DE,B3]⟩
     · obtain rfl:k=b.length:=by omega
       rw[List.take_length,hfold];by_cases h4:(BE a b).length≤4
       · have ho:=hOs h4;generalize BE a b=L at *;have h4':¬ (4:Int)<(L.length:Int):=by omega
         have h4'':¬ 4<L.length:=by omega
         simp[hlt,h4',h4'',zz3 h4'',ho];exact⟨[],by simp[ho]⟩
       · have ho:=hOn h4;generalize BE a b=L at *;have h4':(4:Int)<(L.length:Int):=by omega
         have h4'':4<L.length:=by omega
         simp[hlt,h4',h4'',zz2 h4'',ho];exact⟨[],by simp[ho]⟩
 · by_cases zb:0<b.length
   · have hb1:b[0]? = some (b[0]'(by omega)):=zz0 _;have hb2:=pb _ hb1;generalize b[0]'(by omega)=b0 at *;simp[zz3 za,zz2 zb,hb1,hb2];refine Ab (kc) ?_;simp[DE,B3,e1,Az];refine As [false,false,false,false,false,false,true,false,false,false,false,false,false,false,false,false,false,false,false,false,false,false,false,false,false,false,false,false,false,false,false,false,false,false,false,false,false,false,false,false,false,true,true,true] (fun k:Nat=>k≤b.length) (fun k:Nat=>[(6,.d (.sl 3 (((b.take k).foldl CA a).map (e1 Az)))),(43,.d (.int .i64 k))]) (fun k:Nat=>fun _=>[]) (fun k:Nat=>b.length - k) 0 ?_ ?_ ?_
     · exact Nat.zero_le _
     · exact⟨[],by simp⟩
     rintro I S μ hI hS hμ k hk;by_cases hlt:k<b.length
     · have hx1:b[k]? = some b[k]:=zz0 hlt;have hd:=zz2 hlt;have w2:IntKind.i64.wrap ((k:Int)+1)=(k:Int)+1:=Af (by omega) (by omega);have hst:=Ez (f:=CA) (b:=a) hx1;have hl:=hlen k;generalize b[k]=y at *;obtain⟨l2,hl2⟩:∃ l2,(b.take (k+1)).foldl CA a=l2:=⟨_,rfl⟩;rw[hl2] at hst;generalize (b.take k).foldl CA a=l1 at *;have ki:=Df l1 y (by omega);rw[←hst] at ki;simp[hd,hx1];refine Ac (ki) [] [] (by simp) ?_;simp[w2];exact Ae hI hS hμ (k+1) (by omega) (by omega) ⟨[],by simp[hl2,DE,B3]⟩
     · obtain rfl:k=b.length:=by omega
       rw[List.take_length,hfold];by_cases h4:(BE a b).length≤4
       · have ho:=hOs h4;generalize BE a b=L at *;have h4':¬ (4:Int)<(L.length:Int):=by omega
         have h4'':¬ 4<L.length:=by omega
         simp[hlt,h4',h4'',zz3 h4'',ho];exact⟨[],by simp[ho]⟩
       · have ho:=hOn h4;generalize BE a b=L at *;have h4':(4:Int)<(L.length:Int):=by omega
         have h4'':4<L.length:=by omega
         simp[hlt,h4',h4'',zz2 h4'',ho];exact⟨[],by simp[ho]⟩
   · simp[zz3 za,zz3 zb];refine Ab (kc) ?_;simp[DE,B3,e1,Az];refine As [false,false,false,false,false,false,true,false,false,false,false,false,false,false,false,false,false,false,false,false,false,false,false,false,false,false,false,false,false,false,false,false,false,false,false,false,false,false,false,false,false,true,true,true] (fun k:Nat=>k≤b.length) (fun k:Nat=>[(6,.d (.sl 3 (((b.take k).foldl CA a).map (e1 Az)))),(43,.d (.int .i64 k))]) (fun k:Nat=>fun _=>[]) (fun k:Nat=>b.length - k) 0 ?_ ?_ ?_
     · exact Nat.zero_le _
     · exact⟨[],by simp⟩
     rintro I S μ hI hS hμ k hk;by_cases hlt:k<b.length
     · have hx1:b[k]? = some b[k]:=zz0 hlt;have hd:=zz2 hlt;have w2:IntKind.i64.wrap ((k:Int)+1)=(k:Int)+1:=Af (by omega) (by omega);have hst:=Ez (f:=CA) (b:=a) hx1;have hl:=hlen k;generalize b[k]=y at *;obtain⟨l2,hl2⟩:∃ l2,(b.take (k+1)).foldl CA a=l2:=⟨_,rfl⟩;rw[hl2] at hst;generalize (b.take k).foldl CA a=l1 at *;have ki:=Df l1 y (by omega);rw[←hst] at ki;simp[hd,hx1];refine Ac (ki) [] [] (by simp) ?_;simp[w2];exact Ae hI hS hμ (k+1) (by omega) (by omega) ⟨[],by simp[hl2,DE,B3]⟩
     · obtain rfl:k=b.length:=by omega
       rw[List.take_length,hfold];by_cases h4:(BE a b).length≤4
       · have ho:=hOs h4;generalize BE a b=L at *;have h4':¬ (4:Int)<(L.length:Int):=by omega
         have h4'':¬ 4<L.length:=by omega
         simp[hlt,h4',h4'',zz3 h4'',ho];exact⟨[],by simp[ho]⟩
       · have ho:=hOn h4;generalize BE a b=L at *;have h4':(4:Int)<(L.length:Int):=by omega
         have h4'':4<L.length:=by omega
         simp[hlt,h4',h4'',zz2 h4'',ho];exact⟨[],by simp[ho]⟩
end Go.Proofs.Ytnjedabjbeipeaa
