/-
  Balancing by the program, by an abstract walk.
  Conditions: those typed in each theorem.
-/
import Derived.Test.YtnjedabjbeipeaaYf
namespace Go.Proofs.Ytnjedabjbeipeaa
open Go.RowKit Go.ChangeShapes Go.WideShapes
set_option linter.unusedSimpArgs false
set_option linter.unusedVariables false
set_option maxRecDepth 100000
set_option maxHeartbeats 10000000
abbrev KI:=List Ah×List Int×List Int
def W7 (fa:Nat) (s:KI):KI :=
 (Ak s.1 (Av s.2.2 0) (Av s.2.2 1),XY s.2.1 s.1 (Av s.2.2 0) (Av s.2.2 1),FB (XY s.2.1 s.1 (Av s.2.2 0) (Av s.2.2 1)) (s.2.2.drop 2) (AG fa s.1 (Av s.2.2 0) (Av s.2.2 1)))
def Oy (fa:Nat):Nat→KI→KI
 | 0,s=>s
 | n+1,s=>if s.2.2.length≤1 then s else Oy fa n (W7 fa s)
structure OS (fa:Nat) (an:List Ah) (lv:List Int):Prop where
 ok:ES fa an
 lvl:lv.length=fa+an.length
 lvr:∀ y∈lv,0≤y∧y≤(lv.length:Int)
def KN (n:Nat) (L:List Int):Prop:=∀ y∈L,0≤y∧y<2*(n:Int)
theorem XJ {an:List Ah} {a b:Int}:(AV an a b=true∧(Ak an a b).length=an.length+1)∨(AV an a b=false∧Ak an a b=an):=by
 unfold Ak
 cases h:AV an a b with
 | true=>left;simp
 | false=>right;simp
theorem qL {fa:Nat} {an:List Ah} {lv:List Int} {a b:Int} (h:OS fa an lv) (ha:0≤a∧a<2*((fa:Int)+an.length)) (hb:0≤b∧b<2*((fa:Int)+an.length)):OS fa (Ak an a b) (XY lv an a b):=by
 have hl:=h.lvl;have r1:=CJ (lv:=lv) (k:=a / 2) (by omega);have r2:=CJ (lv:=lv) (k:=b / 2) (by omega);have b1:=h.lvr _ (zz6 r1);have b2:=h.lvr _ (zz6 r2);rcases XJ (an:=an) (a:=a) (b:=b) with ⟨h1,h2⟩|⟨h1,h2⟩
 · refine⟨Hf h.ok ha hb,?_,fun y hy=>?_⟩
   · unfold XY;rw[if_pos h1,h2];simp;omega
   · unfold XY at hy ⊢;rw[if_pos h1] at hy ⊢;rw[ACg];rcases ACE.1 hy with hy|hy
     · have:=h.lvr y hy;simp;omega
     · rw[zz9.1 hy];unfold Eo;split<;>simp<;>omega
 · unfold XY;rw[h2,if_neg (by rw[h1];simp)];exact h
theorem OD {fa:Nat} {s:KI} (h0:0<fa) (h:OS fa s.1 s.2.1) (hL:KN (fa+s.1.length) s.2.2) (h2:¬ s.2.2.length≤1) (h3:s.1.length<300) :
 OS fa (W7 fa s).1 (W7 fa s).2.1∧KN (fa+(W7 fa s).1.length) (W7 fa s).2.2∧1≤(W7 fa s).2.2.length∧(W7 fa s).2.2.length<s.2.2.length∧s.1.length≤(W7 fa s).1.length∧(W7 fa s).1.length≤s.1.length+1 ∧
 (0≤AG fa s.1 (Av s.2.2 0) (Av s.2.2 1)∧AG fa s.1 (Av s.2.2 0) (Av s.2.2 1)<2*((fa:Int)+(W7 fa s).1.length))∧(0≤Av s.2.2 0∧Av s.2.2 0<2*((fa:Int)+s.1.length))∧(0≤Av s.2.2 1∧Av s.2.2 1<2*((fa:Int)+s.1.length)):=by
 obtain⟨an,lv,L⟩:=s;simp only at *;have mem:∀ k:Nat,k<L.length→Av L (k:Int)∈L:=fun k hk=>by unfold Av;rw[Int.toNat_natCast,zz0 hk];exact AB7 _
 have ha:0≤Av L 0∧Av L 0<2*((fa+an.length:Nat):Int):=hL _ (mem 0 (by omega));have hb:0≤Av L 1∧Av L 1<2*((fa+an.length:Nat):Int):=hL _ (mem 1 (by omega));have hv:=F9 (fa:=fa) (an:=an) (a:=Av L 0) (b:=Av L 1) (by omega) ha.1 hb.1 h3;have hr:=BA (fa:=fa) (an:=an) (a:=Av L 0) (b:=Av L 1) (by omega) (by omega) (by omega);have hl:=AM (an:=an) (a:=Av L 0) (b:=Av L 1);have hd:(L.drop 2).length=L.length - 2:=List.length_drop;have hi:=Uc (lv:=XY lv an (Av L 0) (Av L 1)) (L:=L.drop 2) (x:=AG fa an (Av L 0) (Av L 1));refine⟨qL (fa:=fa) (an:=an) (lv:=lv) (a:=Av L 0) (b:=Av L 1) h (by omega) (by omega),fun y hy=>?_,hi.2,by show (FB (XY lv an (Av L 0) (Av L 1)) (L.drop 2) (AG fa an (Av L 0) (Av L 1))).length<L.length;omega,hl.1,hl.2,⟨hv,hr.2⟩,by omega,by omega⟩;show 0≤y∧y<2*((fa+(Ak an (Av L 0) (Av L 1)).length:Nat):Int);rcases GB.1 (show y∈FB (XY lv an (Av L 0) (Av L 1)) (L.drop 2) (AG fa an (Av L 0) (Av L 1)) from hy) with hy|rfl
 · have:0≤y∧y<2*((fa+an.length:Nat):Int):=hL y (List.mem_of_mem_drop hy);omega
 · omega
theorem TL {fa:Nat} (h0:0<fa):∀ (n:Nat) (s:KI),OS fa s.1 s.2.1→KN (fa+s.1.length) s.2.2→1≤s.2.2.length→s.2.2.length≤n+1→s.1.length+s.2.2.length≤301 →
 OS fa (Oy fa n s).1 (Oy fa n s).2.1∧KN (fa+(Oy fa n s).1.length) (Oy fa n s).2.2∧(Oy fa n s).2.2.length=1∧s.1.length≤(Oy fa n s).1.length∧(Oy fa n s).1.length+1≤s.1.length+s.2.2.length
 | 0,s,h,hL,h1,h2,h3=>⟨h,hL,by show s.2.2.length=1;omega,Nat.le_refl _,by show s.1.length+1≤_;omega⟩
 | n+1,s,h,hL,h1,h2,h3=>by
   unfold Oy;split
   · exact⟨h,hL,by omega,Nat.le_refl _,by omega⟩
   · rename_i hn;obtain⟨q1,q2,q3,q4,q5,q6,-⟩:=OD h0 h hL hn (by omega);obtain⟨p1,p2,p3,p4,p5⟩:=TL h0 n _ q1 q2 q3 (by omega) (by omega);exact⟨p1,p2,p3,by omega,by omega⟩
def Np (lv pl cs:List Int):Nat→List Int
 | 0=>[]
 | k+1=>FB lv (Np lv pl cs k) (Ap pl (Av cs k))
theorem S7 {lv pl cs:List Int}:∀ k,(Np lv pl cs k).length≤k∧(1≤k→1≤(Np lv pl cs k).length)
 | 0=>by simp[Np]
 | k+1=>by
   have ih:=S7 (lv:=lv) (pl:=pl) (cs:=cs) k;have h:=Uc (lv:=lv) (L:=Np lv pl cs k) (x:=Ap pl (Av cs k));unfold Np;omega
theorem Xy {lv pl cs:List Int} {n:Nat} (hn:n≤1000) (hp:Oh n pl) (h0:0<n):∀ k,KN n (Np lv pl cs k)
 | 0=>by simp[Np,KN]
 | k+1=>fun y hy=>by
   rcases GB.1 (show y∈FB _ _ _ from hy) with hy|rfl
   · exact Xy hn hp h0 k y hy
   · exact Bf (Bw hp (by omega) _) (by omega)
def Ee (h:AB):Nat→List Int×List Ah×List Int
 | 0=>(BQ (Aa h),[],List.replicate (Aa h) 0)
 | i+1=>if Be (Jo h) (Aa h+i)=false then ((Ee h i).1++[0],(Ee h i).2.1,(Ee h i).2.2)
   else (fun L:List Int=>(fun r:KI=>((Ee h i).1++[Av r.2.2 0],r.1,r.2.1)) (Oy (Aa h) L.length ((Ee h i).2.1,(Ee h i).2.2,L))) (Np (Ee h i).2.2 (Ee h i).1 (Cz h (Aa h+i)) (Cz h (Aa h+i)).length)
def bnD:Nat→Nat
 | 0=>0
 | i+1=>bnD i+(i+1)
theorem XW:∀ i,i≤14→bnD i≤105:=by decide
theorem Ux {x:AB} (hok:Aj x=true) {v0:Nat}:∀ (m:Nat) (s:List Int),N6 x v0 s m→1≤s.length→1≤(Xs x m s).length
 | 0,s,_,h=>h
 | m+1,s,hc,h=>by
   unfold Xs;split
   · exact h
   · rename_i hn;obtain⟨p,hp⟩:∃ p:Nat,KJ x s s.length=p:=⟨(KJ x s s.length).toNat,by have:=(H4 (x:=x) (s:=s) s.length).1;omega⟩;rw[hp,Int.toNat_natCast];refine Ux hok m _ (Kj hok hc hp).1 ?_;exact AB9 (CH.2 (.inr rfl))
theorem dJ {x:AB} (hok:Aj x=true) {v:Nat} (h1:Aa x≤v) (h2:v<AR x):1≤(Cz x v).length :=
 Ux hok v _ (Mq hok h1 h2) (AB9 (CH.2 (.inr rfl)))
structure AAh (h:AB) (i:Nat) (s:List Int×List Ah×List Int):Prop where
 len:s.1.length=Aa h+i
 pl:Oh ((Aa h+s.2.1.length:Nat):Int) s.1
 an:s.2.1.length≤bnD i
 cb:OS (Aa h) s.2.1 s.2.2
theorem nH {h:AB}:OS (Aa h) [] (List.replicate (Aa h) 0):=⟨by simp[ES,BO],by simp,fun y hy=>by have:=List.eq_of_mem_replicate hy;simp;omega⟩
theorem TY {h:AB} (hok:Aj h=true) (h14:h.2.2.1.length≤14) {i:Nat} (hi:i<h.2.2.1.length) (hB:AAh h i (Ee h i)) :
 KN (Aa h+(Ee h i).2.1.length) (Np (Ee h i).2.2 (Ee h i).1 (Cz h (Aa h+i)) (Cz h (Aa h+i)).length)∧1≤(Np (Ee h i).2.2 (Ee h i).1 (Cz h (Aa h+i)) (Cz h (Aa h+i)).length).length ∧
 (Np (Ee h i).2.2 (Ee h i).1 (Cz h (Aa h+i)) (Cz h (Aa h+i)).length).length≤2+i∧(Ee h i).2.1.length≤105:=by
 have hN:=Bn h;obtain⟨c1,c2⟩:=Iv hok (v:=Aa h+i) (by omega) (by omega);have c3:=dJ hok (v:=Aa h+i) (by omega) (by omega);obtain⟨⟨n1,n2,n3,n4,n5,n6⟩,-,-,-⟩:=Ax hok;have hF1:1≤Aa h∧Aa h≤33:=by unfold Aa;omega
 have hb:=XW i (by omega);have ha:=hB.an;have hl:=S7 (lv:=(Ee h i).2.2) (pl:=(Ee h i).1) (cs:=Cz h (Aa h+i)) (Cz h (Aa h+i)).length;exact⟨Xy (by omega) hB.pl (by omega) _,by omega,by omega,by omega⟩
theorem OV {h:AB} (hok:Aj h=true) (h14:h.2.2.1.length≤14):∀ i,i≤h.2.2.1.length→AAh h i (Ee h i)
 | 0,_=>⟨EO,Kh (by simp[Ee]),by simp[Ee],nH⟩
 | i+1,hi=>by
   have ih:=OV hok h14 i (by omega);obtain⟨q1,q2,q3,q4⟩:=TY hok h14 (i:=i) (by omega) ih;have hF1:1≤Aa h:=by unfold Aa;omega
   have hbn:bnD (i+1)=bnD i+(i+1):=rfl;unfold Ee;split
   · exact⟨by simp[ih.len];omega,fun y hy=>by
      rcases ACE.1 hy with hy|hy
      · exact ih.pl y hy
      · rw[zz9.1 hy];simp only;omega,by have:=ih.an;simp only;omega,ih.cb⟩
   · generalize Np (Ee h i).2.2 (Ee h i).1 (Cz h (Aa h+i)) (Cz h (Aa h+i)).length=L at *;have:=ih.an;obtain⟨p1,p2,p3,p4,p5⟩:=TL (fa:=Aa h) (by omega) L.length ((Ee h i).2.1,(Ee h i).2.2,L) ih.cb q1 q2 (by simp only;omega) (by simp only;omega);simp only at p1 p2 p3 p4 p5
     have hm:Av (Oy (Aa h) L.length ((Ee h i).2.1,(Ee h i).2.2,L)).2.2 ((0:Nat):Int)∈(Oy (Aa h) L.length ((Ee h i).2.1,(Ee h i).2.2,L)).2.2:=by
      unfold Av;rw[Int.toNat_natCast,zz0 (by omega)];exact AB7 _
     have hr:=p2 _ hm;refine⟨by simp[ih.len];omega,fun y hy=>?_,by simp only;omega,p1⟩;simp only at hy ⊢;rcases ACE.1 hy with hy|hy
     · have:=ih.pl y hy;omega
     · rw[zz9.1 hy];exact hr
noncomputable def WC (h:AB):AB:=(h.1,h.2.1.map (Do (Ee h h.2.2.1.length).1),(Ee h h.2.2.1.length).2.1,h.2.2.2.map (Ap (Ee h h.2.2.1.length).1))
theorem SQ {h:AB} (hok:Aj h=true) (h14:h.2.2.1.length≤14):Aj (WC h)=true∧(WC h).2.2.1.length≤105:=by
 have I:=OV hok h14 _ (Nat.le_refl _);have hb:=XW _ h14;have ha:=I.an;have hp:=I.pl;rw[Int.natCast_add] at hp;exact⟨LK hok (by omega) hp I.cb.ok,by show (Ee h h.2.2.1.length).2.1.length≤105;omega⟩
noncomputable def QI (x:AB):AB:=Mv (WC (Eg x))
theorem IE {x:AB} (hok:Aj x=true):Aj (Eg x)=true:=SZ (PJ hok)
theorem IC {x:AB} (hok:Aj x=true) (h3:x.2.2.1.length<300):(Eg x).2.2.1.length≤x.2.2.1.length:=by
 have h1:=(YO hok h3 _ (Nat.le_refl _)).2;have h2:=(Lf (keep:=OO (pD x)) (PJ hok) _ (Nat.le_refl _)).1;exact Nat.le_trans h2 h1
theorem aF (x:AB) (hok0:Aj x=true) (h14x:x.2.2.1.length≤14):BS Try.prog 24 [T4 x] [] (qY (QI x)) []:=by
 have hx0:=Bj hok0;have kO:=FU x hx0;rw[hok0] at kO;have kH:=JC x hok0 (by omega);have hok:=IE hok0;have h14:(Eg x).2.2.1.length≤14:=by have:=IC hok0 (by omega);omega
 have hBI:QI x=Mv (WC (Eg x)):=rfl;have kS:=K1 (WC (Eg x)) (SQ hok h14).1;rw[←hBI] at kS;generalize QI x=G at *;generalize Eg x=y at *;have hx:=Bj hok;obtain⟨⟨n1,n2,n3,n4,n5,n6⟩,-,-,-⟩:=Ax hok;obtain⟨hF,hgl,hNi,hno⟩:=Bz hok;have hN:=Bn y;have kF:=AW y ⟨n1,n2⟩ n3;rw[←hF] at kF;have kFT:BS Try.prog 61 [T4 y] [] (.d (.int .i64 (Aa y))) []:=Zu kF (by simp[XE]);have kN:=BL y ⟨n1,n2⟩ n3 n4;rw[hNi] at kN;have kD:=Wi y hok;have kE:=HO y hx;have kL:=DX y hx hok;have hnl:(Jo y).length=AR y:=PN _;have hI:=OV hok h14;have hlist:=fun i hi=>TY hok h14 (i:=i) hi (hI i (by omega));have hb0:Ee y 0=(BQ (Aa y),[],List.replicate (Aa y) 0):=rfl;have hbx:=fun i=>(show Ee y (i+1)=if Be (Jo y) (Aa y+i)=false then ((Ee y i).1++[0],(Ee y i).2.1,(Ee y i).2.2) else (fun L:List Int=>(fun r:KI=>((Ee y i).1++[Av r.2.2 0],r.1,r.2.1)) (Oy (Aa y) L.length ((Ee y i).2.1,(Ee y i).2.2,L))) (Np (Ee y i).2.2 (Ee y i).1 (Cz y (Aa y+i)) (Cz y (Aa y+i)).length) from rfl);have hP:WC y=(y.1,y.2.1.map (Do (Ee y y.2.2.1.length).1),(Ee y y.2.2.1.length).2.1,y.2.2.2.map (Ap (Ee y y.2.2.1.length).1)):=rfl;rw[hP] at kS;have kJ:=fun v h1 h2=>J6 y v hok h1 h2;have hJ:=fun v h1 h2=>Iv hok (v:=v) h1 h2;have hql:(y.2.1.map CF).length=y.2.1.length:=by simp
 have kC:=fun pl an lv=>Wg y pl an lv hx;generalize hsq:y.2.1.map CF=sq at *;have hsl:∀ s∈y.2.1,F7 (AR y) s.2.2:=fun s hs l hl=>D5 hok l (List.mem_append_right _ (List.mem_flatten.2 ⟨_,ACP.2 ⟨s,hs,rfl⟩,hl⟩));have hol:F7 (AR y) y.2.2.2:=fun l hl=>D5 hok l (List.mem_append_left _ hl);have hF1:1≤Aa y∧Aa y≤33:=by unfold Aa;omega
 generalize Jo y=nd at *;refine Bl (by kernel_rfl) Try.func24 rfl rfl rfl (by simp[AZ,Later]) (by simp[Bi,Ag.live]) ?_;simp[AL];refine Ab (kO) ?_;simp[AL];refine Ac (kH) [] [] (by simp) ?_;simp;refine Ac (kD) [] [] (by simp) ?_;simp;refine AS [(1,[2]),(3,[]),(4,[]),(5,[]),(6,[]),(7,[])] (by kernel_rfl) ?_;simp;refine Au (kE) [] [] (by simp) (by simp[Bg]) ?_;simp;refine Au (kFT) [] [] (by simp) (by simp[Bg]) ?_;simp;refine⟨by omega,?_⟩;refine Ab (kL) ?_;simp[AL];refine Ab (kF) ?_;simp;refine As [false,false,true,true,true,true,true,true] (fun i:Nat=>i≤y.2.2.1.length) (fun i:Nat=>[(3,.ptr 2 0),(4,.ref 3),(5,.ptr 7 0),(6,.ref 8),(7,.d (.int .i64 ((Aa y+i:Nat):Int)))]) (fun i:Nat=>fun _=>[gZ x,uQ,gZ y,.arr 4 true (nd.map (e1 EV)),LF sq,Mu (Ee y i).2.1,Sd (Ee y i).2.2,cG y.1 4 5 6,Sd (Cd (Ee y i).1 (AR y))]) (fun i:Nat=>y.2.2.1.length - i) 0 ?_ ?_ ?_
 · exact Nat.zero_le _
 · exact⟨[0,1,2,3,4,5,6,7,8],by simp[hb0,e1,Az]⟩
 clear hb0 kO kH kD kE kFT hx0 hok0 h14x;rintro I S μ hI' hS hμ i hi;have hBi:=hI i hi;have hNk:(Aa y:Int)+(i:Int)≤AR y:=by omega
 by_cases hlt:i<y.2.2.1.length
 · obtain⟨b1,b2,b3,b4⟩:=hlist i hlt;have hat:=IX (s:=nd) (v:=Aa y+i) (by omega);have hx2:=hbx i;have k1:=kJ (Aa y+i) (by omega) (by omega);obtain⟨⟨c1,c2,c3⟩,c4⟩:=hJ (Aa y+i) (by omega) (by omega);have p1:=hBi.len;have p2:=hBi.pl;have p3:=hBi.an;have p4:=hBi.cb;have hge:((Aa y+i:Nat):Int)<(AR y:Int):=by omega
   have w1:IntKind.i64.wrap (((Aa y+i:Nat):Int)+1)=((Aa y+(i+1):Nat):Int):=by rw[Af (by omega) (by omega)];omega
   generalize Cz y (Aa y+i)=cs at *;obtain⟨⟨pl,an,lv⟩,hst⟩:∃ s,Ee y i=s:=⟨_,rfl⟩;rw[hst] at b1 b2 b3 b4 hx2 p1 p2 p3 p4 ⊢;simp only at b1 b2 b3 b4 hx2 p1 p2 p3 p4 ⊢;have hplen:=Gx (p:=pl) (n:=AR y) (by omega);have hset:=fun v:Int=>Fr (p:=pl) (n:=AR y) (v:=v) (by omega);have hpt:(Cd pl (AR y))[pl.length]? = some (Av (Cd pl (AR y)) pl.length):=CJ (k:=pl.length) (by omega)
   have hskip:Cd (pl++[0]) (AR y)=Cd pl (AR y):=by
    unfold Cd;obtain⟨m,hm⟩:∃ m,AR y - pl.length=m+1:=⟨AR y - pl.length - 1,by omega⟩;rw[hm,List.replicate_succ,ACY,ACg,List.length_cons,List.length_nil,show AR y - (pl.length+(0+1))=m by omega];rfl
   rw[←p1] at hx2 hat w1 hge k1 ⊢
   cases hb:Be nd pl.length with
   | false =>
     rw[hb] at hat;rw[if_pos hb] at hx2;simp[AL];refine Ab (kN) ?_;simp[hge,zz2 hge,hat,w1];exact Ae hI' hS hμ (i+1) (by omega) (by omega) ⟨[0,1,2,3,4,5,6,7,8],by simp[hx2,hskip]⟩
   | true =>
     rw[hb] at hat;rw[if_neg (by rw[hb];simp)] at hx2;simp[AL];refine Ab (kN) ?_;simp[hge,zz2 hge,hat];refine Ac (k1) [] [] (by simp) ?_;simp;have p4l:=p4.lvl;have hin:=fun k=>Xy (lv:=lv) (pl:=pl) (cs:=cs) (n:=Aa y+an.length) (by omega) p2 (by omega) k;have hil:=fun k=>(S7 (lv:=lv) (pl:=pl) (cs:=cs) k).1;refine As [false,false,true,true,true,true,true,true,true,false,false,false,false,false,false,false,false,false,false,false,false,false,false,false,false,false,false,false,false,false,false,false,false,false,false,false,false,false,false,false,false,false,false,false,true,true,true] (fun k:Nat=>k≤cs.length) (fun k:Nat=>[(8,DE (Np lv pl cs k)),(46,.d (.int .i64 k))]) (fun k:Nat=>fun sl=>sl) (fun k:Nat=>cs.length - k) 0 ?_ ?_ ?_
     · exact Nat.zero_le _
     · exact⟨[0,1,2,3,4,5,6,7,8],by simp[Np,B3]⟩
     rintro I2 S2 μ2 hI2 hS2 hμ2 k hk;by_cases hlt2:k<cs.length
     · obtain⟨l,hl⟩:∃ l,cs[k]? = some l:=⟨_,zz0 hlt2⟩;have hlr:=c2 l (zz6 hl);have kM:=CD (Cd pl (AR y)) l (by omega) (by omega);rw[Hp (by omega)] at kM;have hnx:Np lv pl cs (k+1)=FB lv (Np lv pl cs k) (Ap pl l):=by rw[Np,Eh hl]
       have hr:=Bf (l:=l) (Bw p2 (by omega) (l / 2)) (by omega);have kI:=fun h1 h2=>RX y.1 sq an lv (Np lv pl cs k) (Ap pl l) h1 h2 (by omega) (by have:=hil k;omega);have kI:=kI (fun z hz=>by have:=hin k z hz;omega) (by omega);rw[←hnx] at kI;obtain⟨G2,hG2⟩:∃ g,Np lv pl cs (k+1)=g:=⟨_,rfl⟩;rw[hG2] at kI;have w2:IntKind.i64.wrap ((k:Int)+1)=(k:Int)+1:=Af (by omega) (by omega);generalize Np lv pl cs k=G1 at *;generalize Ap pl l=ml at *;simp[zz2 hlt2,hl,DE,B3];refine Ab (kM) ?_;simp;refine Ac (kI) [] [7,4,5,6] (by simp) ?_;simp[w2];exact Ae hI2 hS2 hμ2 (k+1) (by omega) (by omega) ⟨[0,1,2,3,4,5,6,7,8],by simp[hG2]⟩
     obtain rfl:k=cs.length:=by omega
     clear hI2 hS2 hμ2 hin hil;generalize Np lv pl cs cs.length=L at *;obtain⟨R,hR⟩:∃ R,Oy (Aa y) L.length (an,lv,L)=R:=⟨_,rfl⟩;rw[hR] at hx2;obtain⟨z1,z2,z3,z4,z5⟩:=TL (fa:=Aa y) (by omega) L.length (an,lv,L) p4 b1 b2 (by simp only;omega) (by simp only;omega);rw[hR] at z1 z2 z3 z4 z5;simp[zz3 hlt2,hlt2,DE,B3];refine As [false,false,true,true,true,true,true,true,true] (fun q:Nat×KI=>OS (Aa y) q.2.1 q.2.2.1∧KN (Aa y+q.2.1.length) q.2.2.2∧1≤q.2.2.2.length∧q.2.2.2.length≤q.1+1∧q.2.1.length+q.2.2.2.length≤301∧Oy (Aa y) q.1 q.2=R) (fun q:Nat×KI=>[(5,.ptr 7 0),(6,.ref 8),(8,DE q.2.2.2)]) (fun q:Nat×KI=>fun _=>[gZ x,uQ,gZ y,.arr 4 true (nd.map (e1 EV)),LF sq,Mu q.2.1,Sd q.2.2.1,cG y.1 4 5 6,Sd (Cd pl (AR y))]) (fun q:Nat×KI=>q.1) (L.length,(an,lv,L)) ?_ ?_ ?_
     · exact⟨p4,b1,b2,by simp only;omega,by simp only;omega,hR⟩
     · exact⟨[0,1,2,3,4,5,6,7,8],by simp⟩
     clear b1 b2 b3 hR p4l p3 p4 hlt2 hk;rintro I2 S2 μ2 hI2 hS2 hμ2 ⟨n,s⟩ ⟨d1,d2,d3,d4,d5,d6⟩;simp only at d1 d2 d3 d4 d5 d6 hμ2 ⊢;by_cases h1:s.2.2.length≤1
     · have wL:s=R:=by
        rw[←d6]
        cases n with
        | zero=>rfl
        | succ n=>unfold Oy;rw[if_pos h1]
       subst wL;obtain⟨an2,lv2,L2⟩:=s;simp only at d1 d2 d3 d4 d5 h1 hx2 ⊢;have hl0:L2[0]? = some (Av L2 0):=by have:=CJ (lv:=L2) (k:=(0:Int)) (by omega);simpa using this
       have hlen1:L2.length=1:=by omega
       have hl9:∀ h:0<L2.length,L2[0]'h=Av L2 0:=fun h=>(zz1.1 hl0).2;simp[hlen1,DE,B3];simp[hl0,hpt,hset,w1,hlen1];exact Ae hI' hS hμ (i+1) (by omega) (by omega) ⟨[0,1,2,3,4,5,6,7,8],by simp[hx2,hl9]⟩
     · obtain⟨m,rfl⟩:∃ m,n=m+1:=⟨n - 1,by omega⟩;obtain⟨f1,f2,f3,f4,f5,f6,f7,f8,f9⟩:=OD (by omega) d1 d2 h1 (by omega);have hR2:Oy (Aa y) m (W7 (Aa y) s)=R:=by rw[←d6];conv=>rhs;unfold Oy;rw[if_neg h1]
       obtain⟨an2,lv2,L2⟩:=s;simp only at d1 d2 d3 d4 d5 h1 f8 f9 ⊢;have hl0:L2[0]? = some (Av L2 0):=by have:=CJ (lv:=L2) (k:=(0:Int)) (by omega);simpa using this
       have hl1:L2[1]? = some (Av L2 1):=by have:=CJ (lv:=L2) (k:=(1:Int)) (by omega);simpa using this
       have kA:=ZO y.1 (Aa y) sq an2 lv2 (Av L2 0) (Av L2 1) ⟨n1,n2⟩ (by omega) (by omega) (by omega) (by have:=d1.lvl;omega) (by have:=d1.lvl;omega) (by have:=d1.lvl;omega) d1.lvr;have hcs:W7 (Aa y) (an2,lv2,L2)=(Ak an2 (Av L2 0) (Av L2 1),XY lv2 an2 (Av L2 0) (Av L2 1),FB (XY lv2 an2 (Av L2 0) (Av L2 1)) (L2.drop 2) (AG (Aa y) an2 (Av L2 0) (Av L2 1))):=rfl;rw[hcs] at f1 f2 f3 f4 f5 f6 f7 hR2;simp only at f1 f2 f3 f4 f5 f6 f7;have hdl:∀ z∈L2.drop 2,0≤z∧z<2*((Aa y+an2.length:Nat):Int):=fun z hz=>d2 z (List.mem_of_mem_drop hz);have hdd:(L2.drop 2).length=L2.length - 2:=List.length_drop;have hA:(L2.map (e1 Az)).drop 2=(L2.drop 2).map (e1 Az):=List.map_drop.symm;have hC:(L2.map (e1 Az)).take L2.length=L2.map (e1 Az):=ACe (by simp);generalize AG (Aa y) an2 (Av L2 0) (Av L2 1)=v at *;generalize XY lv2 an2 (Av L2 0) (Av L2 1)=lv3 at *;generalize Ak an2 (Av L2 0) (Av L2 1)=an3 at *;have kI:=RX y.1 sq an3 lv3 (L2.drop 2) v (fun z hz=>by have:=hdl z hz;have:=f1.lvl;omega) (by have:=f1.lvl;omega) (by have:=f1.lvl;omega) (by omega);generalize L2.drop 2=L3 at *;generalize FB lv3 L3 v=L4 at *;generalize Av L2 0=a0 at *;generalize Av L2 1=a1 at *;simp[show (1:Int)<(L2.length:Int) by omega,zz2 (show (1:Int)<(L2.length:Int) by omega),DE,B3];refine AJ 7 (by kernel_rfl) ?_;simp[hl0,hl1];refine Ac (kA) [] [7,4,5,6] (by simp) ?_;simp[show ¬ v<0 by omega,zz3 (show ¬ v<0 by omega),hA,hC,show 2≤L2.length by omega];refine Ac (kI) [] [7,4,9,10] (by simp) ?_;simp;exact Ae hI2 hS2 hμ2 (m,(an3,lv3,L4)) ⟨f1,f2,f3,by simp only;omega,by simp only;omega,hR2⟩ (by simp only;omega) ⟨[0,1,2,3,4,9,10,7,8],by simp⟩
 obtain rfl:i=y.2.2.1.length:=by omega
 have p1:=hBi.len;have p3:=hBi.an;obtain⟨⟨pl,an,lv⟩,hst⟩:∃ s,Ee y y.2.2.1.length=s:=⟨_,rfl⟩;rw[hst] at p1 p3 kS ⊢;simp only at p1 p3 kS ⊢;have hl2:pl.length=AR y:=by omega
 rw[Hi hl2];have kC2:=kC pl an lv (by omega) (by rw[hl2];exact hsl) (by rw[hl2];exact hol);have hge:¬ ((Aa y+y.2.2.1.length:Nat):Int)<(AR y:Int):=by omega
 rw[←hN] at hge ⊢;simp[AL];refine Ab (kN) ?_;simp[hge,zz3 hge];refine AJ 5 (by kernel_rfl) ?_;simp;refine Ac (kC2) [8] [7,4,5,6] (by simp) ?_;simp;refine Ac (kS) [4,5,9] [] (by simp) ?_;simp;exact⟨[],by simp⟩
end Go.Proofs.Ytnjedabjbeipeaa
