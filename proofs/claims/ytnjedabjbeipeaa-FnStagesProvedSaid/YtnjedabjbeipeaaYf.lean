/-
  The balancer: order, lists, trees' nodes, by abstract walks.
  Conditions: those typed in each theorem.
-/
import Derived.Test.YtnjedabjbeipeaaYd
namespace Go.Proofs.Ytnjedabjbeipeaa
open Go.RowKit Go.ChangeShapes Go.WideShapes
set_option linter.unusedSimpArgs false
set_option linter.unusedVariables false
set_option maxRecDepth 100000
set_option maxHeartbeats 10000000
def Nl (lv:List Int) (x y:Int):Bool:=if Av lv (x / 2)=Av lv (y / 2) then decide (x<y) else decide (Av lv (x / 2)<Av lv (y / 2))
def FB (lv:List Int):List Int→Int→List Int
 | [],x=>[x]
 | y::l,x=>if Nl lv y x=true then y::FB lv l x else if y=x then y::l else x::y::l
theorem Yr {lv L:List Int} {x:Int}:∀ {p:Nat},(∀ v∈L.take p,Nl lv v x=true)→(p=L.length∨∃ v,L[p]? = some v∧Nl lv v x=false∧v≠x)→FB lv L x=L.take p++x::L.drop p:=by
 induction L with
 | nil=>intro p h1 h2;simp[FB]
 | cons y l ih =>
   intro p h1 h2
   cases p with
   | zero =>
     rcases h2 with h2|⟨v,hv,h2,h3⟩
     · simp at h2
     · simp at hv;subst hv;unfold FB;rw[if_neg (by rw[h2];simp),if_neg h3];simp
   | succ p =>
     have hy:=h1 y (by simp);unfold FB;rw[if_pos hy,ih (p:=p) (fun v hv=>h1 v (by simp[hv])) (by simpa using h2)];simp
theorem bF {lv L:List Int} {x:Int}:∀ {p:Nat},(∀ v∈L.take p,Nl lv v x=true)→L[p]? = some x→Nl lv x x=false→FB lv L x=L:=by
 induction L with
 | nil=>intro p h1 h2;simp at h2
 | cons y l ih =>
   intro p h1 h2 h3
   cases p with
   | zero =>
     simp at h2;subst h2;unfold FB;rw[if_neg (by rw[h3];simp),if_pos rfl]
   | succ p =>
     have hy:=h1 y (by simp);unfold FB;rw[if_pos hy,ih (p:=p) (fun v hv=>h1 v (by simp[hv])) (by simpa using h2) h3]
theorem lM {lv:List Int} {x:Int}:Nl lv x x=false:=by unfold Nl;rw[if_pos rfl];exact zz3 (by omega)
theorem GB {lv L:List Int} {x y:Int}:y∈FB lv L x↔y∈L∨y=x:=by
 induction L with
 | nil=>simp[FB]
 | cons z l ih =>
   unfold FB;split
   · rw[List.mem_cons,ih,List.mem_cons,or_assoc]
   · split
     · rename_i h;subst h;simp only[List.mem_cons];exact⟨.inl,fun h=>h.elim id .inl⟩
     · simp[or_comm,or_assoc,or_left_comm]
theorem Uc {lv L:List Int} {x:Int}:(FB lv L x).length≤L.length+1∧1≤(FB lv L x).length:=by
 induction L with
 | nil=>simp[FB]
 | cons z l ih =>
   unfold FB;split
   · simp;omega
   · split<;>simp
abbrev cG (I:Int) (q k l:Nat):Ag:=.var 83 [.d (.int .i64 I),.ref q,.ref k,.nil 3,.ref l]
def XY (lv:List Int) (an:List Ah) (a b:Int):List Int:=if AV an a b=true then lv++[1+Eo (Av lv (a / 2)) (Av lv (b / 2))] else lv
theorem dP (I fa:Int) (sq:List Dl) (an:List Ah) (lv:List Int) (a b:Int) (hI:0≤I∧I≤20) (hfa:1+I+(sq.length:Int)=fa) (hs:sq.length≤12) (hn:an.length≤300) (ha:0≤a∧a≤1048576) (hb:0≤b∧b≤1048576) :
 BS Try.prog 79 [.ptr 0 0,.d (.int .i64 a),.d (.int .i64 b)] [cG I 1 2 3,LF sq,Mu an,Sd lv] (.d (.int .i64 (AG fa an a b))) [cG I 1 4 3,LF sq,.dead,Sd lv,Mu (Ak an a b)]:=by
 cases hm:AV an a b with
 | true=>exact QQ I fa sq an lv a b hI hfa hs hn ha hb hm
 | false =>
   have hN:Ak an a b=an:=by unfold Ak;rw[hm];rfl
   rw[hN];refine P9 (k:=2) (PI I fa sq an lv a b hI hfa hs hn ha hb hm) rfl rfl rfl rfl (fun s y h2 hy=>?_) ⟨trivial,by simp[Later],trivial,by simp[Later],trivial⟩
   match s with
   | 0 =>
     refine⟨_,rfl,.inr ⟨_,_,_,(ACW hy).symm,rfl,rfl,fun i p z hp hz=>?_⟩⟩
     match i with
     | 0=>simp at hp hz;exact .inl (by rw[←hp,←hz])
     | 1=>simp at hp hz;exact .inl (by rw[←hp,←hz])
     | 2=>simp at hp hz;exact .inr ⟨hp.symm,hz.symm⟩
     | 3=>simp at hp hz;exact .inl (by rw[←hp,←hz])
     | 4=>simp at hp hz;exact .inl (by rw[←hp,←hz])
     | n+5=>simp at hp
   | 1=>exact⟨_,rfl,.inl (ACW hy)⟩
   | 2=>exact absurd rfl h2
   | 3=>exact⟨_,rfl,.inl (ACW hy)⟩
   | n+4=>simp at hy
theorem Xt (I:Int) (sq:List Dl) (an:List Ah) (lv:List Int) (a b:Int) (ha:0≤a∧a<2*(lv.length:Int)) (hb:0≤b∧b<2*(lv.length:Int)) (hl:lv.length≤1000) :
 BS Try.prog 113 [.ptr 0 0,.d (.int .i64 a),.d (.int .i64 b)] [cG I 1 2 3,LF sq,Mu an,Sd lv] (.d (.bool (Nl lv a b))) [cG I 1 2 3,LF sq,Mu an,Sd lv]:=by
 have hB:Nl lv a b=if Av lv (a / 2)=Av lv (b / 2) then decide (a<b) else decide (Av lv (a / 2)<Av lv (b / 2)):=rfl;have r1:=CJ (lv:=lv) (k:=a / 2) (by omega);have r2:=CJ (lv:=lv) (k:=b / 2) (by omega);have w1:IntKind.i64.wrap (a.tdiv 2)=a / 2:=by rw[Int.tdiv_eq_ediv_of_nonneg ha.1];exact Af (by omega) (by omega)
 have w2:IntKind.i64.wrap (b.tdiv 2)=b / 2:=by rw[Int.tdiv_eq_ediv_of_nonneg hb.1];exact Af (by omega) (by omega)
 have p1:¬ a / 2<0:=by omega
 have p2:¬ b / 2<0:=by omega
 generalize Nl lv a b=R at *;generalize Av lv (a / 2)=u at *;generalize Av lv (b / 2)=v at *;generalize a / 2=a2 at *;generalize b / 2=b2 at *;refine Bl (by kernel_rfl) Try.func113 rfl rfl rfl (by simp[AZ,Later]) (by simp[Bi,Ag.live]) ?_;simp;by_cases he:u=v
 · rw[if_pos he] at hB;subst he;refine AJ 16 (by kernel_rfl) ?_;simp[w1,w2,r1,r2,p1,p2,show (u != u)=false by simp,hB];exact⟨[0,1,2,3],by simp⟩
 · rw[if_neg he] at hB;have he2:(u != v)=true:=by simpa using he
   refine AJ 16 (by kernel_rfl) ?_;simp[w1,w2,r1,r2,p1,p2,he2,he];refine AJ 17 (by kernel_rfl) ?_;simp[w1,w2,r1,r2,p1,p2,hB];exact⟨[0,1,2,3],by simp⟩
theorem RX (I:Int) (sq:List Dl) (an:List Ah) (lv L:List Int) (x:Int) (hL:∀ y∈L,0≤y∧y<2*(lv.length:Int)) (hx:0≤x∧x<2*(lv.length:Int)) (hl:lv.length≤1000) (hn:L.length≤1048576) :
 BS Try.prog 65 [.ptr 0 0,DE L,.d (.int .i64 x)] [cG I 1 2 3,LF sq,Mu an,Sd lv] (DE (FB lv L x)) [cG I 1 2 3,LF sq,Mu an,Sd lv]:=by
 refine Bl (by kernel_rfl) Try.func65 rfl rfl rfl (by simp[AZ,Later]) (by simp[Bi,Ag.live]) ?_;simp[DE,B3];refine As [true,true,true,false,false,false,false,true] (fun p:Nat=>p≤L.length∧∀ v∈L.take p,Nl lv v x=true) (fun p:Nat=>[(0,.ptr 0 0),(1,DE L),(2,.d (.int .i64 x)),(7,.d (.int .i64 p))]) (fun p:Nat=>fun sl=>sl) (fun p:Nat=>L.length - p) 0 ?_ ?_ ?_
 · simp
 · exact⟨[0,1,2,3],by simp⟩
 rintro J S μ hJ hS hμ p ⟨hp,ha⟩;by_cases hlt:p<L.length
 · have hx1:L[p]? = some L[p]:=zz0 hlt;have hd:=zz2 hlt;have w2:IntKind.i64.wrap ((p:Int)+1)=(p:Int)+1:=Af (by omega) (by omega);have hyr:=hL _ (AB7 hlt);have hin:Nl lv L[p] x=false→L[p]≠x→FB lv L x=L.take p++x::L.drop p:=fun h1 h2=>Yr ha (.inr ⟨_,hx1,h1,h2⟩);have hsm:L[p]=x→FB lv L x=L:=fun h=>bF ha (h▸hx1) lM;have hts:=Bh hx1;generalize L[p]=y at *;have kL:=Xt I sq an lv y x hyr hx hl
   cases hv:Nl lv y x with
   | true =>
     rw[hv] at kL;simp[hd,hx1,DE,B3,e1,Az];refine Ac (kL) [] [0,1,2,3] (by simp) ?_;simp
     exact Ae hJ hS hμ (p+1) ⟨by omega,fun v h=>by
      rw[hts] at h;rcases ACE.1 h with h|h
      · exact ha v h
      · simp at h;rw[h];exact hv⟩ (by omega) ⟨[0,1,2,3],by simp[w2]⟩
   | false =>
     rw[hv] at kL;by_cases he:y=x
     · have h2:=hsm he;have he2:(y==x)=true:=by simpa using he
       simp[hd,hx1,DE,B3,e1,Az];refine Ac (kL) [] [0,1,2,3] (by simp) ?_;simp[hd,hx1,he2,he,h2];exact⟨[0,1,2,3],by simp⟩
     · have h2:=hin hv he;have he2:(y==x)=false:=by simpa using he
       have hA:(L.map (e1 Az)).take p=(L.take p).map (e1 Az):=List.map_take.symm;have hB:(L.map (e1 Az)).drop p=(L.drop p).map (e1 Az):=List.map_drop.symm;have hC:(L.map (e1 Az)).take L.length=L.map (e1 Az):=ACe (by simp);have lA:(L.take p).length≤1048576:=by rw[ACL];omega
       have lB:(L.drop p).length≤1048576:=by rw[List.length_drop];omega
       generalize L.take p=A at *;generalize L.drop p=B at *;generalize FB lv L x=G at *;simp[hd,hx1,DE,B3,e1,Az];refine Ac (kL) [] [0,1,2,3] (by simp) ?_;simp[hd,hx1,he2,he,hp,hA,hB];refine Aw AX rfl (by simp) rfl (by simp) (by simp) (by first | (simp;done)|(simp;omega)) (by simp[Bp,A4]) ?_;simp;refine Aw AX rfl (by simp) rfl (by simp) (by simp) (by first | (simp;done)|(simp;omega)) (by simp[Bp,A4]) ?_;simp[hp,hC,hB];refine Aw AX rfl (by simp) rfl (by simp) (by simp) (by first | (simp;done)|(simp;omega)) (by simp[Bp,A4]) ?_;simp[h2];exact⟨[0,1,2,3],by simp[h2]⟩
 · obtain rfl:p=L.length:=by omega
   have h2:FB lv L x=L++[x]:=by rw[Yr ha (.inl rfl)];simp
   have hA:(L.map (e1 Az)).take L.length=L.map (e1 Az):=ACe (by simp);have hB:(L.map (e1 Az)).drop L.length=[]:=List.drop_of_length_le (by simp);generalize FB lv L x=G at *;simp[hlt,zz3 hlt,DE,B3,hA,hB];refine Aw AX rfl (by simp) rfl (by simp) (by simp) (by first | (simp;done)|(simp;omega)) (by simp[Bp,A4]) ?_;simp;refine Aw AX rfl (by simp) rfl (by simp) (by simp) (by first | (simp;done)|(simp;omega)) (by simp[Bp,A4]) ?_;simp[hA,hB];refine Aw AX rfl (by simp) rfl (by simp) (by simp) (by first | (simp;done)|(simp;omega)) (by simp[Bp,A4]) ?_;simp[h2];exact⟨[0,1,2,3],by simp[h2]⟩
theorem ZO (I fa:Int) (sq:List Dl) (an:List Ah) (lv:List Int) (a b:Int) (hI:0≤I∧I≤20) (hfa:1+I+(sq.length:Int)=fa) (hs:sq.length≤12) (hn:an.length≤300) (ha:0≤a∧a<2*(lv.length:Int)) (hb:0≤b∧b<2*(lv.length:Int)) (hl:lv.length≤1000) (hlv:∀ y∈lv,0≤y∧y≤(lv.length:Int)) :
 BS Try.prog 67 [.ptr 0 0,.d (.int .i64 a),.d (.int .i64 b)] [cG I 1 2 3,LF sq,Mu an,Sd lv] (.d (.int .i64 (AG fa an a b))) [cG I 1 4 5,LF sq,.dead,.dead,Mu (Ak an a b),Sd (XY lv an a b)]:=by
 have kA:=dP I fa sq an lv a b hI hfa hs hn (by omega) (by omega);have hN:Ak an a b=if AV an a b=true then an++[(E3 a b,Eo a b)] else an:=rfl;have hV:XY lv an a b=if AV an a b=true then lv++[1+Eo (Av lv (a / 2)) (Av lv (b / 2))] else lv:=rfl;generalize AG fa an a b=v at *
 cases hm:AV an a b with
 | false =>
   rw[hm] at hN hV;simp only[Bool.false_eq_true,if_false] at hN hV;rw[hN] at kA ⊢;rw[hV];refine P9 (sl':=[cG I 1 4 3,LF sq,.dead,Sd lv,Mu an]) (k:=3) ?_ rfl rfl rfl rfl (fun s y h2 hy=>?_) ⟨trivial,by simp[Later],trivial,trivial,trivial⟩
   · refine Bl (by kernel_rfl) Try.func67 rfl rfl rfl (by simp[AZ,Later]) (by simp[Bi,Ag.live]) ?_;simp;refine Ac (kA) [] [0,1,2,3] (by simp) ?_;simp;exact⟨[0,1,2,3,4],by simp⟩
   · match s with
     | 0 =>
       refine⟨_,rfl,.inr ⟨_,_,_,(ACW hy).symm,rfl,rfl,fun i p z hp hz=>?_⟩⟩
       match i with
       | 0=>simp at hp hz;exact .inl (by rw[←hp,←hz])
       | 1=>simp at hp hz;exact .inl (by rw[←hp,←hz])
       | 2=>simp at hp hz;exact .inl (by rw[←hp,←hz])
       | 3=>simp at hp hz;exact .inl (by rw[←hp,←hz])
       | 4=>simp at hp hz;exact .inr ⟨hp.symm,hz.symm⟩
       | n+5=>simp at hp
     | 1=>exact⟨_,rfl,.inl (ACW hy)⟩
     | 2=>exact⟨_,rfl,.inl (ACW hy)⟩
     | 3=>exact absurd rfl h2
     | 4=>exact⟨_,rfl,.inl (ACW hy)⟩
     | n+5=>simp at hy
 | true =>
   rw[hm] at hN hV;simp only[if_true] at hN hV;have hal:(Ak an a b).length=an.length+1:=by rw[hN];simp
   generalize Ak an a b=an2 at *;rw[hV];have r1:=CJ (lv:=lv) (k:=a / 2) (by omega);have r2:=CJ (lv:=lv) (k:=b / 2) (by omega);have b1:=hlv _ (zz6 r1);have b2:=hlv _ (zz6 r2);have w1:IntKind.i64.wrap (a.tdiv 2)=a / 2:=by rw[Int.tdiv_eq_ediv_of_nonneg ha.1];exact Af (by omega) (by omega)
   have w2:IntKind.i64.wrap (b.tdiv 2)=b / 2:=by rw[Int.tdiv_eq_ediv_of_nonneg hb.1];exact Af (by omega) (by omega)
   have p1:¬ a / 2<0:=by omega
   have p2:¬ b / 2<0:=by omega
   generalize Av lv (a / 2)=u at *;generalize Av lv (b / 2)=v2 at *;generalize a / 2=a2 at *;generalize b / 2=c2 at *;have hx2:(if u<v2 then v2 else u)=Eo u v2:=rfl;have w3:IntKind.i64.wrap (1+Eo u v2)=1+Eo u v2:=by unfold Eo;split<;>exact Af (by omega) (by omega)
   generalize Eo u v2=m at *;refine Bl (by kernel_rfl) Try.func67 rfl rfl rfl (by simp[AZ,Later]) (by simp[Bi,Ag.live]) ?_;simp;refine Ac (kA) [] [0,1,2,3] (by simp) ?_;simp[hal,show (an.length:Int)<(an.length:Int)+1 by omega,zz2 (show (an.length:Int)<(an.length:Int)+1 by omega)];refine AS [(24,[0]),(25,[]),(26,[]),(27,[])] (by kernel_rfl) ?_;simp[w1,w2,r1,r2,p1,p2,hx2,w3];refine Aw AX rfl (by simp) rfl (by simp) (by simp) (by first | (simp;done)|(simp;omega)) (by simp[Bp,A4]) ?_;simp;exact⟨[0,1,2,3,4,6],by simp⟩
theorem Wg (x:AB) (pl:List Int) (an:List Ah) (lv:List Int) (hx:DQ 1048576 x) (hp:pl.length≤1048576) (hs:∀ s∈x.2.1,F7 pl.length s.2.2) (ho:F7 pl.length x.2.2.2) :
 BS Try.prog 68 [.ptr 0 0,T4 x,.d (B3 3 (e1 Az) pl)] [cG x.1 1 2 3,LF (x.2.1.map CF),Mu an,Sd lv] (.tup []) [.var 83 [.d (.int .i64 x.1),.ref 1,.ref 2,.ref 4,.ref 3],LF (x.2.1.map (Do pl)),Mu an,Sd lv,Sd (x.2.2.2.map (Ap pl))]:=by
 obtain⟨f1,f2,f3,f4⟩:=hx;rw[←Up (pl:=pl),←YV];refine Cv (by kernel_rfl) Try.func68 rfl rfl rfl (by simp[AZ,Later]) (by simp[Bi,Ag.live]) ?_;simp[AL];refine AY [true,false,true,false,true,false,false,false,false,true,true,true] (fun i:Nat=>i≤x.2.1.length) (fun i:Nat=>[(11,.d (.int .i64 i))]) (fun i:Nat=>[(1,.arr 31 true ((QR x pl i).map A7))]) (fun i:Nat=>x.2.1.length - i) 0 ?_ ?_ ?_
 · exact Nat.zero_le _
 · exact⟨[0,1,2,3,4],by simp⟩
 rintro I S μ hI hS hμ i hi;by_cases hlt:i<x.2.1.length
 · obtain⟨s,hx1⟩:∃ s,x.2.1[i]? = some s:=⟨_,zz0 hlt⟩;have hat:=jU (pl:=pl) hx1;have hset:=Yj (pl:=pl) hx1;have hzl:=Yu (x:=x) (pl:=pl) (i:=i);have hmem:=zz6 hx1;have km:=Eu pl s.2.2 hp (f2 s hmem) (hs s hmem);have w2:IntKind.i64.wrap ((i:Int)+1)=((i+1:Nat):Int):=by rw[Af (by omega) (by omega)];omega
   have hL:(A7 s).length=3:=rfl;have hL2:(A7 (CF s)).length=3:=rfl;have hse:((QR x pl i).map A7).set i (A7 (Do pl s))=(QR x pl (i+1)).map A7:=by rw[←hset,List.map_set]
   obtain⟨z2,hz2⟩:∃ z2,QR x pl (i+1)=z2:=⟨_,rfl⟩;rw[hz2] at hse;clear hset;generalize QR x pl i=z1 at *;simp only[Do,A7,e3,Az,B3] at hse;simp[zz2 hlt,hx1,hL,A7];refine⟨by kernel_rfl,?_⟩;refine Ab (km) ?_;simp[hat,hL2,A7,CF];simp only[ACm] at hse;simp[hse,w2];exact Ae hI hS hμ (i+1) (by omega) (by omega) ⟨[0,1,2,3,4],by simp[hz2]⟩
 · obtain rfl:i=x.2.1.length:=by omega
   have km:=Eu pl x.2.2.2 hp f4 ho;simp[zz3 hlt,hlt];refine Ab (km) ?_;simp;exact⟨[0,1,2,3,5],by simp⟩
end Go.Proofs.Ytnjedabjbeipeaa
