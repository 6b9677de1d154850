/-
  Building nets from empty ones, sweeping and hashing, by abstract walks: the program.
  Conditions: those typed in each theorem.
-/
import Derived.Test.YtnjedabjbeipeaaYe
import Derived.Test.YtnjedabjbeipeaaPa
namespace Go.Proofs.Ytnjedabjbeipeaa
open Go.RowKit Go.ChangeShapes Go.WideShapes
set_option linter.unusedSimpArgs false
set_option linter.unusedVariables false
set_option maxRecDepth 100000
set_option maxHeartbeats 10000000
abbrev YU (I:Int) (q k:Nat):Ag:=.var 28 [.d (.int .i64 I),.ref q,.ref k,.nil 3]
abbrev LF (sq:List Dl):Ag:=.arr 31 true (sq.map A7)
abbrev Mu (an:List Ah):Ag:=.arr 60 true (an.map Ao)
abbrev Sd (xs:List Int):Ag:=.arr 3 true (xs.map (e1 Az))
abbrev uQ:Ag:=.var 28 [.d (.int .i64 0),.nil 31,.nil 60,.nil 3]
abbrev gZ (x:AB):Ag:=.var 28 [.d (.int .i64 x.1),.d (B3 31 A7 x.2.1),.d (B3 60 Ao x.2.2.1),.d (B3 3 (e1 Az) x.2.2.2)]
theorem Q4 (x:AB) (hx:DQ 1048576 x) (hne:x.2.1=[]):BS Try.prog 60 [T4 x] [] (.agg [.d (.int .i64 x.1),.nil 31,.nil 60,.nil 3]) []:=by
 have hl:x.2.1.length=0:=by rw[hne];rfl
 refine Cv (by kernel_rfl) Try.func60 rfl rfl rfl (by simp[AZ,Later]) (by simp[Bi,Ag.live]) ?_;simp[AL];refine As [false,false,true,true,false,false,false,false,false,false,true,true,true] (fun i:Nat=>i=0) (fun i:Nat=>[(12,.d (.int .i64 i))]) (fun i:Nat=>fun sl=>sl) (fun i:Nat=>0) 0 ?_ ?_ ?_
 · rfl
 · exact⟨[0,1,2],by simp⟩
 rintro I S μ hI hS hμ i rfl;simp[hl];exact⟨[],by simp⟩
theorem HO (x:AB) (hx:DQ 1048576 x):BS Try.prog 60 [T4 x] [] (.agg [.d (.int .i64 x.1),.ref 0,.ref 1,.nil 3]) [LF (x.2.1.map CF),Mu []]:=by
 have key:∀ {k:Nat} {a b:V} {i:Nat} {x y:V},True:=fun {_ _ _ _ _ _}=>trivial;by_cases h:0<x.2.1.length
 · exact Qz (ys:=[.d (.int .i64 x.1),.ref 0,.ref 1,.nil 3]) 60 (O8 x hx h) ⟨rfl,fun i a b ha hb=>by
    match i with
    | 0=>simp at ha hb;exact .inl (by rw[←ha,←hb])
    | 1=>simp at ha hb;exact .inl (by rw[←ha,←hb])
    | 2=>simp at ha hb;exact .inr ⟨⟨_,ha.symm⟩,hb.symm⟩
    | 3=>simp at ha hb;exact .inl (by rw[←ha,←hb])
    | n+4=>simp at ha⟩
 · have h0:x.2.1=[]:=zz7 (by omega)
   have k1:=Qz (ys:=[.d (.int .i64 x.1),.ref 0,.nil 60,.nil 3]) 31 (Q4 x hx h0) ⟨rfl,fun i a b ha hb=>by
    match i with
    | 0=>simp at ha hb;exact .inl (by rw[←ha,←hb])
    | 1=>simp at ha hb;exact .inr ⟨⟨_,ha.symm⟩,hb.symm⟩
    | 2=>simp at ha hb;exact .inl (by rw[←ha,←hb])
    | 3=>simp at ha hb;exact .inl (by rw[←ha,←hb])
    | n+4=>simp at ha⟩
   have k2:=Qz (ys:=[.d (.int .i64 x.1),.ref 0,.ref 1,.nil 3]) 60 k1 ⟨rfl,fun i a b ha hb=>by
    match i with
    | 0=>simp at ha hb;exact .inl (by rw[←ha,←hb])
    | 1=>simp at ha hb;exact .inl (by rw[←ha,←hb])
    | 2=>simp at ha hb;exact .inr ⟨⟨_,ha.symm⟩,hb.symm⟩
    | 3=>simp at ha hb;exact .inl (by rw[←ha,←hb])
    | n+4=>simp at ha⟩
   rw[h0];exact k2
theorem LW (I fa:Int) (sq:List Dl) (an:List Ah) (a b:Int) (hI:0≤I∧I≤20) (hfa:1+I+(sq.length:Int)=fa) (hs:sq.length≤12) (hn:an.length≤300) (ha:0≤a∧a≤1048576) (hb:0≤b∧b≤1048576) :
 BS Try.prog 79 [.ptr 0 0,.d (.int .i64 a),.d (.int .i64 b)] [YU I 1 2,LF sq,Mu an] (.d (.int .i64 (AG fa an a b))) [YU I 1 3,LF sq,.dead,Mu (Ak an a b)]:=by
 cases hm:AV an a b with
 | true=>exact QG I fa sq an a b hI hfa hs hn ha hb hm
 | false =>
   have hN:Ak an a b=an:=by unfold Ak;rw[hm];rfl
   rw[hN];refine P9 (k:=2) (Qd I fa sq an a b hI hfa hs hn ha hb hm) rfl rfl rfl rfl (fun s y h2 hy=>?_) ⟨trivial,by simp[Later],trivial,trivial⟩
   match s with
   | 0 =>
     refine⟨_,rfl,.inr ⟨_,_,_,(ACW hy).symm,rfl,rfl,fun i p z hp hz=>?_⟩⟩
     match i with
     | 0=>simp at hp hz;exact .inl (by rw[←hp,←hz])
     | 1=>simp at hp hz;exact .inl (by rw[←hp,←hz])
     | 2=>simp at hp hz;exact .inr ⟨hp.symm,hz.symm⟩
     | 3=>simp at hp hz;exact .inl (by rw[←hp,←hz])
     | n+4=>simp at hp
   | 1=>exact⟨_,rfl,.inl (ACW hy)⟩
   | 2=>exact absurd rfl h2
   | n+3=>simp at hy
def QR (x:AB) (pl:List Int) (i:Nat):List Dl:=(x.2.1.take i).map (Do pl)++(x.2.1.drop i).map CF
theorem jU {x:AB} {pl:List Int} {s:Dl} {i:Nat} (h:x.2.1[i]? = some s):(QR x pl i)[i]? = some (CF s):=by
 have hi:=(zz1.1 h).1;unfold QR;rw[zz5 (by simp;omega)];simp only[ACH,ACL];rw[ACF,ACj,show i+(i - min i x.2.1.length)=i by omega,h];rfl
theorem Yj {x:AB} {pl:List Int} {s:Dl} {i:Nat} (h:x.2.1[i]? = some s):(QR x pl i).set i (Do pl s)=QR x pl (i+1):=by
 obtain⟨hi,e⟩:=zz1.1 h;unfold QR;rw[List.set_append_right _ _ (by simp;omega),Bh h,ACX,ACY]
 congr 1
 rw[ACH,ACL,show i - min i x.2.1.length=0 by omega,List.drop_eq_getElem_cons hi,e];rfl
@[simp] theorem Yu {x:AB} {pl:List Int} {i:Nat}:(QR x pl i).length=x.2.1.length:=by unfold QR;simp;omega
theorem YV {x:AB} {pl:List Int}:QR x pl x.2.1.length=x.2.1.map (Do pl):=by unfold QR;simp
theorem Up {x:AB} {pl:List Int}:QR x pl 0=x.2.1.map CF:=by unfold QR;simp
theorem JY (x:AB) (pl:List Int) (an:List Ah) (hx:DQ 1048576 x) (hp:pl.length≤1048576) (hs:∀ s∈x.2.1,F7 pl.length s.2.2) (ho:F7 pl.length x.2.2.2) :
 BS Try.prog 68 [.ptr 0 0,T4 x,.d (B3 3 (e1 Az) pl)] [YU x.1 1 2,LF (x.2.1.map CF),Mu an] (.tup []) [.var 28 [.d (.int .i64 x.1),.ref 1,.ref 2,.ref 3],LF (x.2.1.map (Do pl)),Mu an,Sd (x.2.2.2.map (Ap pl))]:=by
 obtain⟨f1,f2,f3,f4⟩:=hx;rw[←Up (pl:=pl),←YV];refine Cv (by kernel_rfl) Try.func68 rfl rfl rfl (by simp[AZ,Later]) (by simp[Bi,Ag.live]) ?_;simp[AL];refine AY [true,false,true,false,true,false,false,false,false,true,true,true] (fun i:Nat=>i≤x.2.1.length) (fun i:Nat=>[(11,.d (.int .i64 i))]) (fun i:Nat=>[(1,.arr 31 true ((QR x pl i).map A7))]) (fun i:Nat=>x.2.1.length - i) 0 ?_ ?_ ?_
 · exact Nat.zero_le _
 · exact⟨[0,1,2,3],by simp⟩
 rintro I S μ hI hS hμ i hi;by_cases hlt:i<x.2.1.length
 · obtain⟨s,hx1⟩:∃ s,x.2.1[i]? = some s:=⟨_,zz0 hlt⟩;have hat:=jU (pl:=pl) hx1;have hset:=Yj (pl:=pl) hx1;have hzl:=Yu (x:=x) (pl:=pl) (i:=i);have hmem:=zz6 hx1;have km:=Eu pl s.2.2 hp (f2 s hmem) (hs s hmem);have w2:IntKind.i64.wrap ((i:Int)+1)=((i+1:Nat):Int):=by rw[Af (by omega) (by omega)];omega
   have hL:(A7 s).length=3:=rfl;have hL2:(A7 (CF s)).length=3:=rfl;have hse:((QR x pl i).map A7).set i (A7 (Do pl s))=(QR x pl (i+1)).map A7:=by rw[←hset,List.map_set]
   obtain⟨z2,hz2⟩:∃ z2,QR x pl (i+1)=z2:=⟨_,rfl⟩;rw[hz2] at hse;clear hset;generalize QR x pl i=z1 at *;simp only[Do,A7,e3,Az,B3] at hse;simp[zz2 hlt,hx1,hL,A7];refine⟨by kernel_rfl,?_⟩;refine Ab (km) ?_;simp[hat,hL2,A7,CF];simp only[ACm] at hse;simp[hse,w2];exact Ae hI hS hμ (i+1) (by omega) (by omega) ⟨[0,1,2,3],by simp[hz2]⟩
 · obtain rfl:i=x.2.1.length:=by omega
   have km:=Eu pl x.2.2.2 hp f4 ho;simp[zz3 hlt,hlt];refine Ab (km) ?_;simp;exact⟨[0,1,2,4],by simp⟩
noncomputable def T6 (x:AB) (rs:List Int):Nat→List Bool
 | 0=>List.replicate (AR x) false
 | k+1=>HH x (AR x) (Av rs k / 2).toNat (T6 x rs k)
noncomputable def OO (x:AB):List Bool:=T6 x (At x) (At x).length
theorem Ot {x:AB} {rs:List Int}:∀ k,(T6 x rs k).length=AR x
 | 0=>by simp[T6]
 | k+1=>by unfold T6 HH;rw[Dp];exact Ot k
noncomputable def Mv (x:AB):AB:=uZ x (OO x)
noncomputable def Eg (x:AB):AB:=Mv (pD x)
theorem UV (x:AB) (hx:DQ 1048576 x) (hok:Aj x=true):CI Try.prog 114 [N7 x] (nT (OO x)):=by
 obtain⟨⟨n1,n2,n3,n4,n5,n6⟩,-,-,-⟩:=Ax hok;obtain⟨hF,hgl,hNi,hno⟩:=Bz hok;have hrl:=PZ hok;have hri:=D5 hok;have kR:=F8 x hx n3;have hM:OO x=T6 x (At x) (At x).length:=rfl;rw[hM];generalize At x=rs at *;have hr0:List.replicate (AR x) [D.bool false]=(T6 x rs 0).map (e1 EV):=by unfold T6;rw[List.map_replicate];rfl
 refine BD (by kernel_rfl) Try.func114 rfl rfl rfl ?_;simp[AL];refine Ab (BL x ⟨n1,n2⟩ n3 n4) ?_;simp;refine⟨⟨by omega,by omega⟩,?_⟩;rw[hNi,Int.toNat_natCast,hr0];refine Ab (kR) ?_;simp;refine AY [false,true,false,true,false,false,false,false,false,false,true,true,true] (fun k:Nat=>k≤rs.length) (fun k:Nat=>[(12,.d (.int .i64 k))]) (fun k:Nat=>[(1,.arr 4 true ((T6 x rs k).map (e1 EV)))]) (fun k:Nat=>rs.length - k) 0 ?_ ?_ ?_
 · simp
 · exact⟨[0,1,2],by simp⟩
 rintro I S μ hI hS hμ k hk;have hlk:=Ot (x:=x) (rs:=rs) k;by_cases hlt:k<rs.length
 · have hx1:rs[k]? = some rs[k]:=zz0 hlt;have w2:IntKind.i64.wrap ((k:Int)+1)=(k:Int)+1:=Af (by omega) (by omega);have hd:decide (k<rs.length)=true:=zz2 hlt;have hyr:=hri _ (AB7 hlt);have hnx:T6 x rs (k+1)=HH x (AR x) (rs[k] / 2).toNat (T6 x rs k):=by simp[T6,Eh hx1]
   generalize rs[k]=y at *;obtain⟨q,hq⟩:∃ q:Nat,(q:Int)=y / 2:=⟨(y / 2).toNat,by omega⟩;rw[←hq,Int.toNat_natCast] at hnx;have q1:IntKind.i64.wrap (y.tdiv 2)=(q:Int):=by rw[Int.tdiv_eq_ediv_of_nonneg hyr.1,←hq];exact Af (by omega) (by omega)
   have km:=H9 x hx hok (AR x) q (T6 x rs k) (by omega) (by omega) hlk;rw[←hnx] at km;simp[hd,hx1,q1];refine Ac (km) [] [1] (by simp) ?_;simp;simp[w2];exact Ae hI hS hμ (k+1) (by omega) (by omega) ⟨[0,1,2],by simp⟩
 obtain rfl:k=rs.length:=by omega
 simp[hlt,zz3 hlt]
theorem K1 (y:AB) (hok:Aj y=true):BS Try.prog 69 [T4 y] [] (qY (Mv y)) []:=by
 have hx:=Bj hok;obtain⟨⟨n1,n2,n3,n4,n5,n6⟩,-,-,-⟩:=Ax hok;obtain⟨hF,hgl,hNi,hno⟩:=Bz hok;have hN:=Bn y;have kR:=UV y hx hok;have kE:=HO y hx;have kL:=DX y hx hok;have kF:=AW y ⟨n1,n2⟩ n3;rw[←hF] at kF;have hkl:(OO y).length=AR y:=Ot _;have hsw:=fun i hi=>Lf (keep:=OO y) hok i hi;have hS:Mv y=(y.1,y.2.1.map (Do (Ia y (OO y) y.2.2.1.length).2),(Ia y (OO y) y.2.2.1.length).1,y.2.2.2.map (Ap (Ia y (OO y) y.2.2.1.length).2)):=rfl;rw[hS];have hs0:Ia y (OO y) 0=([],BQ (Aa y)):=rfl;have hsx:=fun i=>(show Ia y (OO y) (i+1)=if Be (OO y) (Aa y+i)=true then ((Ia y (OO y) i).1++[(Ap (Ia y (OO y) i).2 (Al y (Aa y+i)).1,Ap (Ia y (OO y) i).2 (Al y (Aa y+i)).2)],(Ia y (OO y) i).2++[2*((Aa y:Int)+(Ia y (OO y) i).1.length)]) else ((Ia y (OO y) i).1,(Ia y (OO y) i).2++[0]) from rfl);generalize OO y=keep at *;have hql:(y.2.1.map CF).length=y.2.1.length:=by simp
 have kC:=fun pl an=>JY y pl an hx;generalize hsq:y.2.1.map CF=sq at *;have hsl:∀ s∈y.2.1,F7 (AR y) s.2.2:=fun s hs l hl=>D5 hok l (List.mem_append_right _ (List.mem_flatten.2 ⟨_,ACP.2 ⟨s,hs,rfl⟩,hl⟩));have hol:F7 (AR y) y.2.2.2:=fun l hl=>D5 hok l (List.mem_append_left _ hl);refine Bl (by kernel_rfl) Try.func69 rfl rfl rfl (by simp[AZ,Later]) (by simp[Bi,Ag.live]) ?_;simp[AL];refine Ab (kR) ?_;simp;refine Ac (kE) [] [] (by simp) ?_;simp;refine Ab (kL) ?_;simp[AL];refine As [false,true,true,true,true,true,false,false,false,false,false,false,false,false,false,false,true,true,true] (fun i:Nat=>i≤y.2.2.1.length) (fun i:Nat=>[(3,.ref 2),(4,.ptr 5 0),(5,.ref 6),(18,.d (.int .i64 i))]) (fun i:Nat=>fun _=>[gZ y,uQ,.arr 4 true (keep.map (e1 EV)),LF sq,Mu (Ia y keep i).1,YU y.1 3 4,Sd (Cd (Ia y keep i).2 (AR y))]) (fun i:Nat=>y.2.2.1.length - i) 0 ?_ ?_ ?_
 · simp
 · exact⟨[0,1,2,3,4,5,6],by simp[hs0]⟩
 rintro I S μ hI hS hμ i hi;obtain⟨g1,g2,g3,g4⟩:=hsw i hi;by_cases hlt:i<y.2.2.1.length
 · obtain⟨hA,a1,a2,a3,a4,a5,a6⟩:=Cy hok (v:=Aa y+i) (by omega) (by omega);rw[Nat.add_sub_cancel_left] at hA;have hat:=IX (s:=keep) (v:=Aa y+i) (by omega);have w1:IntKind.i64.wrap ((i:Int)+1)=(i:Int)+1:=Af (by omega) (by omega);have w3:IntKind.i64.wrap ((Aa y:Int)+i)=((Aa y+i:Nat):Int):=by rw[Af (by omega) (by omega)];omega
   have hx2:=hsx i;generalize Ia y keep i=s at *;obtain⟨an,to⟩:=s;simp only at g1 g2 g3 g4 hx2 ⊢;generalize Al y (Aa y+i)=A at *;have hL:(Ao A).length=2:=rfl;have hplen:=Gx (p:=to) (n:=AR y) (by omega);have kA:=CD (Cd to (AR y)) A.1 (by omega) (by omega);have kB:=CD (Cd to (AR y)) A.2 (by omega) (by omega);rw[Hp (by omega)] at kA kB;have hset:=fun v:Int=>Fr (p:=to) (n:=AR y) (v:=v) (by omega);have hpt:(Cd to (AR y))[to.length]? = some (Av (Cd to (AR y)) to.length):=CJ (k:=to.length) (by omega)
   have hskip:Cd (to++[0]) (AR y)=Cd to (AR y):=by
    unfold Cd;obtain⟨m,hm⟩:∃ m,AR y - to.length=m+1:=⟨AR y - to.length - 1,by omega⟩;rw[hm,List.replicate_succ,ACY,ACg,List.length_cons,List.length_nil,show AR y - (to.length+(0+1))=m by omega];rfl
   rw[←g2] at hx2 hat w3;generalize Ap to A.1=x1 at *;generalize Ap to A.2=x2 at *;have hnc:=BL (y.1,sq,an++[(x1,x2)],[]) ⟨n1,n2⟩ (by simp only;omega) (by simp;omega);have hcnt:1+y.1+(sq.length:Int)+((an++[(x1,x2)]).length:Int)=(Aa y:Int)+an.length+1:=by simp;omega
   simp only at hnc;rw[hcnt] at hnc;simp only[N7,AL,e4,B3,ACX,List.map_cons,List.map_nil,List.nil_append,Ao,e2,Az] at hnc;have w4:IntKind.i64.wrap ((Aa y:Int)+(an.length:Int)+1 - 1)=(Aa y:Int)+an.length:=by rw[Af (by omega) (by omega)];omega
   have w5:IntKind.i64.wrap (2*((Aa y:Int)+(an.length:Int)))=2*((Aa y:Int)+an.length):=Af (by omega) (by omega);have w6:IntKind.i64.wrap ((Aa y:Int)+(an.length:Int))=(Aa y:Int)+an.length:=Af (by omega) (by omega)
   cases hb:Be keep to.length with
   | false =>
     rw[hb] at hat hx2;simp only[Bool.false_eq_true,if_false] at hx2;simp[zz2 hlt,hA,hL,Ao];refine Ab (kF) ?_;simp[w3,hat,w1];exact Ae hI hS hμ (i+1) (by omega) (by omega) ⟨[0,1,2,3,4,5,6],by simp[hx2,hskip]⟩
   | true =>
     rw[hb] at hat hx2;simp only[if_true] at hx2;simp[zz2 hlt,hA,hL,Ao];refine Ab (kF) ?_;simp[w3,hat,w1];refine AJ 12 (by kernel_rfl) ?_;simp;refine Ab (kA) ?_;simp;refine Ab (kB) ?_;simp;refine Aw HI rfl (by simp) rfl (by simp) (by simp) (by first | (simp;done)|(simp;omega)) (by simp[Bp,A4]) ?_;simp;refine Ab (hnc) ?_;simp[w4,w5,hpt,hset];exact Ae hI hS hμ (i+1) (by omega) (by omega) ⟨[0,1,2,3,9,5,6],by simp[hx2,Ao,e2,Az,w1,w5,w6]⟩
 obtain rfl:i=y.2.2.1.length:=by omega
 generalize Ia y keep y.2.2.1.length=s at *;obtain⟨an,to⟩:=s;simp only at g1 g2 g3 g4 ⊢;rw[Hi (show to.length=AR y by omega)];have kC2:=kC to an (by omega) (by rw[show to.length=AR y by omega];exact hsl) (by rw[show to.length=AR y by omega];exact hol);simp[hlt,zz3 hlt];refine Ac (kC2) [6] [5,3,4] (by simp) ?_;simp;exact⟨[],by simp⟩
theorem JC (y:AB) (hok:Aj y=true) (h300:y.2.2.1.length<300):BS Try.prog 58 [T4 y] [] (qY (Eg y)) []:=by
 have hx:=Bj hok;obtain⟨⟨n1,n2,n3,n4,n5,n6⟩,-,-,-⟩:=Ax hok;obtain⟨hF,hgl,hNi,hno⟩:=Bz hok;have hN:=Bn y;have kE:=HO y hx;have kL:=DX y hx hok;have kF:=AW y ⟨n1,n2⟩ n3;rw[←hF] at kF;have hgo:=YO hok h300;have him:=W6 hok;have kS:=K1 (pD y) (PJ hok);have hH:Eg y=Mv (pD y):=rfl;rw[←hH] at kS;have hP:pD y=(y.1,y.2.1.map (Do (Cx y [] y.2.2.1.length).1),(Cx y [] y.2.2.1.length).2.1,y.2.2.2.map (Ap (Cx y [] y.2.2.1.length).1)):=rfl;rw[hP] at kS;generalize Eg y=G at *;have hst:=fun i to an (h:Cx y [] i=(to,an,true))=>IA h;have hs0:Cx y [] 0=(BQ (Aa y),[],true):=rfl
 change ∀ i,i≤y.2.2.1.length→(Cx y [] i).2.2=true∧(Cx y [] i).2.1.length≤i at hgo
 change ∀ i,i≤y.2.2.1.length→NC (Aa y) (Aa y+i) (Cx y [] i) at him
 have hql:(y.2.1.map CF).length=y.2.1.length:=by simp
 have kC:=fun pl an=>JY y pl an hx;generalize hsq:y.2.1.map CF=sq at *;have hsl:∀ s∈y.2.1,F7 (AR y) s.2.2:=fun s hs l hl=>D5 hok l (List.mem_append_right _ (List.mem_flatten.2 ⟨_,ACP.2 ⟨s,hs,rfl⟩,hl⟩));have hol:F7 (AR y) y.2.2.2:=fun l hl=>D5 hok l (List.mem_append_left _ hl);refine Bl (by kernel_rfl) Try.func58 rfl rfl rfl (by simp[AZ,Later]) (by simp[Bi,Ag.live]) ?_;simp[AL];refine Ac (kE) [] [] (by simp) ?_;simp;refine Ab (kL) ?_;simp[AL];refine As [false,true,true,true,true,false,false,false,false,false,false,false,true,true,true] (fun i:Nat=>i≤y.2.2.1.length) (fun i:Nat=>[(3,.ptr 4 0),(4,.ref 5),(14,.d (.int .i64 i))]) (fun i:Nat=>fun _=>[gZ y,uQ,LF sq,Mu (Cx y [] i).2.1,YU y.1 2 3,Sd (Cd (Cx y [] i).1 (AR y))]) (fun i:Nat=>y.2.2.1.length - i) 0 ?_ ?_ ?_
 · simp
 · exact⟨[0,1,2,3,4,5],by simp[hs0]⟩
 rintro I S μ hI hS hμ i hi;obtain⟨g1,g2⟩:=hgo i hi;have q1:=him i hi;by_cases hlt:i<y.2.2.1.length
 · obtain⟨hA,a1,a2,a3,a4,a5,a6⟩:=Cy hok (v:=Aa y+i) (by omega) (by omega);rw[Nat.add_sub_cancel_left] at hA;have g3:=(hgo (i+1) (by omega)).1;obtain⟨⟨to,an,bb⟩,hs⟩:∃ s,Cx y [] i=s:=⟨_,rfl⟩;rw[hs] at g1 g2 q1 ⊢;simp only at g1 g2;subst g1;have hstp:=hst i to an hs;have hl:=q1.len rfl;have hpl:=q1.pl;have ha3:=q1.an;simp only at hl hpl ha3;have w1:IntKind.i64.wrap ((i:Int)+1)=(i:Int)+1:=Af (by omega) (by omega);have w3:IntKind.i64.wrap ((Aa y:Int)+i)=(to.length:Int):=by rw[Af (by omega) (by omega)];omega
   generalize Al y (Aa y+i)=A at *;have hL:(Ao A).length=2:=rfl;have hplen:=Gx (p:=to) (n:=AR y) (by omega);have kA:=CD (Cd to (AR y)) A.1 (by omega) (by omega);have kB:=CD (Cd to (AR y)) A.2 (by omega) (by omega);rw[Hp (by omega)] at kA kB;have hset:=fun v:Int=>Fr (p:=to) (n:=AR y) (v:=v) (by omega);have hpt:(Cd to (AR y))[to.length]? = some (Av (Cd to (AR y)) to.length):=CJ (k:=to.length) (by omega);have r1:=Bf (l:=A.1) (Bw hpl (by omega) (A.1 / 2)) (by omega);have r2:=Bf (l:=A.2) (Bw hpl (by omega) (A.2 / 2)) (by omega);generalize Ap to A.1=x1 at *;generalize Ap to A.2=x2 at *;have kD:=LW y.1 (Aa y) sq an x1 x2 ⟨n1,n2⟩ (by omega) (by omega) (by omega) (by omega) (by omega);by_cases hv:AG (Aa y) an x1 x2<0
   · rw[if_pos hv] at hstp;rw[hstp] at g3;simp at g3
   rw[if_neg hv] at hstp;generalize AG (Aa y) an x1 x2=v at *;generalize Ak an x1 x2=an2 at *;simp[zz2 hlt,hA,hL,Ao];refine AS [(13,[0,3,4]),(14,[]),(15,[])] (by kernel_rfl) ?_;simp;refine Ab (kF) ?_;simp[w3];refine Ab (kA) ?_;simp;refine Ab (kB) ?_;simp;refine Au (kD) [] [4,2,3] (by simp) (by simp[Bg,and_assoc]) ?_;simp;simp[hpt,hset,w1];exact Ae hI hS hμ (i+1) (by omega) (by omega) ⟨[0,1,2,7,4,5],by simp[hstp]⟩
 obtain rfl:i=y.2.2.1.length:=by omega
 obtain⟨⟨to,an,bb⟩,hs⟩:∃ s,Cx y [] y.2.2.1.length=s:=⟨_,rfl⟩;rw[hs] at g1 g2 q1 kS ⊢;simp only at g1 g2 kS ⊢;subst g1;have hl:=q1.len rfl;simp only at hl;have hl2:to.length=AR y:=by omega
 rw[Hi hl2];have kC2:=kC to an (by omega) (by rw[hl2];exact hsl) (by rw[hl2];exact hol);simp[hlt,zz3 hlt];refine Ac (kC2) [5] [4,2,3] (by simp) ?_;simp;refine Ac (kS) [2,3,6] [] (by simp) ?_;simp;exact⟨[],by simp⟩
end Go.Proofs.Ytnjedabjbeipeaa
