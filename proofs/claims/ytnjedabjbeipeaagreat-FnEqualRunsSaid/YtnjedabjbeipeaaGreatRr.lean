/-
  Imports of a net into another, and the net that compares two nets, by abstract walks: the reference. Nets come back as data.
  Conditions: those typed in each theorem.
-/
import Derived.Test.YtnjedabjbeipeaaGreatRn
namespace Go.Proofs.YtnjedabjbeipeaaGreat
open Go.RowKit Go.ChangeShapes Go.WideShapes
set_option linter.unusedSimpArgs false
set_option linter.unusedVariables false
set_option maxRecDepth 100000
set_option maxHeartbeats 10000000
theorem X6 {xs:List Ai}:AR (xs.map At):=by
 intro c hc d hd;obtain⟨x,_,rfl⟩:=ABc.1 hc;simp only[At,e2,List.mem_cons,List.not_mem_nil,or_false] at hd;rcases hd with rfl|rfl<;>rfl
theorem NL {xs:List Int}:AR (xs.map (e1 AC)):=by
 intro c hc d hd;obtain⟨x,_,rfl⟩:=ABc.1 hc;simp[e1] at hd;subst hd;rfl
theorem Jo (sq:List Cr) (h1:sq.length≤1048576) (h2:∀ s∈sq,s.2.2.length≤1048576):Bx Tryz.prog 79 [.d (Dh 57 AY sq)] (.d (Dh 57 AY sq)):=by
 refine B3 (by kernel_rfl) Tryz.func79 rfl rfl rfl ?_;simp;refine AB [true,false,false,true,true] (fun i:Nat=>i≤sq.length) (fun i:Nat=>[(4,.d (.int .i64 i))]) (fun i:Nat=>[(0,.arr 57 true ((sq.take i).map AY))]) (fun i:Nat=>sq.length - i) 0 ?_ ?_ ?_
 · simp
 · exact⟨[0],by simp⟩
 rintro I S μ hI hS hμ i hi;by_cases hlt:i<sq.length
 · have hx1:sq[i]? = some sq[i]:=zz0 hlt;have hnx:=Ba hx1;have hf:=h2 _ (ABt hlt);have w2:IntKind.i64.wrap ((i:Int)+1)=(i:Int)+1:=Ad (by omega) (by omega);have hll:(sq.take i).length=i:=by simp;omega
   generalize sq[i]=s at *;generalize sq.take i=ms at *;have hL:(AY s).length=3:=rfl;simp[zz2 hlt];refine Av [(17,[0,1,2,3,4,5,6,7,8,9,10]),(18,[0]),(19,[0]),(20,[]),(21,[])] (by kernel_rfl) ?_;simp[hx1,hL,AY];refine Ak As rfl (by simp) rfl (by simp) (fun c hc=>by obtain⟨b,_,rfl⟩:=ABc.1 hc;rfl) (by simp;omega) (fun _=>NL) ?_;simp
   first | refine Bs (q:=1) BX (by exact rfl) (by simp) (by exact rfl) (by exact rfl) (by simp) (by simp) (by first | (simp;done)|(simp;omega)) ?_|refine Br BX (by exact rfl) (by simp) (by exact rfl) (by simp) (by first | (simp;done)|(simp;omega)) ?_
   simp[w2];exact Ae hI hS hμ (i+1) (by omega) (by omega) ⟨[4],by simp[hnx,AY,e1,e3,AC]⟩
 · obtain rfl:i=sq.length:=by omega
   rw[List.take_length];simp[hlt,zz3 hlt]
theorem FA (x:AK) (hx:Cz 1048576 x):Bx Tryz.prog 31 [Ge x] (Ge x):=by
 obtain⟨f1,f2,f3,f4⟩:=hx;refine B3 (by kernel_rfl) Tryz.func31 rfl rfl rfl ?_;simp[Ao];refine Av [(8,[0,1,9,10,11]),(12,[0,1]),(13,[]),(14,[])] (by kernel_rfl) ?_;simp[Ao];refine Ab (Jo x.2.1 f1 f2) ?_;simp[Ao];refine Ak D0 rfl (by simp) rfl (by simp) (fun c hc=>by obtain⟨b,_,rfl⟩:=ABc.1 hc;rfl) (by simp;omega) (fun _=>X6) ?_;simp;refine Ak As rfl (by simp) rfl (by simp) (fun c hc=>by obtain⟨b,_,rfl⟩:=ABc.1 hc;rfl) (by simp;omega) (fun _=>NL) ?_;simp[Ao]
theorem EG (pl ls:List Int) (hp:pl.length≤1048576) (hn:ls.length≤1048576) (hl:iL pl.length ls):Bx Tryz.prog 73 [ints pl,ints ls] (ints (ls.map (Aq pl))):=by
 refine A5 (by kernel_rfl) Tryz.func73 rfl rfl rfl ?_;simp;refine AB [true,true,false,false,false,true,true] (fun i:Nat=>i≤ls.length) (fun i:Nat=>[(6,.d (.int .i64 i))]) (fun i:Nat=>[(0,.arr 3 true (((ls.take i).map (Aq pl)).map (e1 AC)))]) (fun i:Nat=>ls.length - i) 0 ?_ ?_ ?_
 · simp
 · exact⟨[0],by simp⟩
 rintro I S μ hI hS hμ i hi;by_cases hlt:i<ls.length
 · have hx1:ls[i]? = some ls[i]:=zz0 hlt;have hli:=hl _ (ABt hlt);have hnx:(ls.take (i+1)).map (Aq pl)=(ls.take i).map (Aq pl)++[Aq pl ls[i]]:=by rw[Ba hx1,ABe];rfl
   have hll:((ls.take i).map (Aq pl)).length=i:=by simp;omega
   have w2:IntKind.i64.wrap ((i:Int)+1)=(i:Int)+1:=Ad (by omega) (by omega);have w1:IntKind.i64.wrap ((ls[i]).tdiv 2)=ls[i] / 2:=by rw[Int.tdiv_eq_ediv_of_nonneg hli.1,Ad (by omega) (by omega)]
   have hat:=B8 (lv:=pl) (k:=ls[i] / 2) (by omega);have w3:=CC ls[i];have hm:Bl (A1 pl (ls[i] / 2)) (ls[i] % 2)=Aq pl ls[i]:=rfl;have hn:¬ ls[i] / 2<0:=by omega
   generalize Aq pl ls[i]=r at *;generalize A1 pl (ls[i] / 2)=v at *;generalize ls[i]=l at *;generalize l / 2=h at *;generalize (ls.take i).map (Aq pl)=ms at *;simp[zz2 hlt,hx1,w1,hat,w3,hm,hn];refine⟨by kernel_rfl,?_⟩;refine Ak As rfl (by simp) rfl (by simp) (by simp) (by first | (simp;done)|(simp;omega)) (by simp[AR,AL]) ?_;simp[w2];exact Ae hI hS hμ (i+1) (by omega) (by omega) ⟨[2],by simp only;rw[hnx];simp[e1,AC]⟩
 · obtain rfl:i=ls.length:=by omega
   rw[List.take_length];simp[hlt,zz3 hlt]
theorem IL (v:Int) (h:-1≤v∧v≤1048576):Bx Tryz.prog 82 [.d (.int .i64 v)] (.d (.int .i64 (C4 v))):=by
 unfold C4;refine A5 (by kernel_rfl) Tryz.func82 rfl rfl rfl ?_;by_cases hv:v<0
 · simp[hv,zz2 hv,show ¬ 0≤v by omega]
 · have hx:Bl v 1=Af v:=Bo (by omega) (by omega);simp[hv,zz3 hv,hx,show 0≤v by omega]
theorem lX {a b:Int} (ha:0≤a) (hb:0≤b):a=Af b↔Af a=b:=by
 constructor
 · intro h;rw[h];exact R0 hb
 · intro h;rw[←h];exact (R0 ha).symm
theorem DI (x:AK) (a b:Int) (hok:Al x=true) (hA:-2≤a∧a≤1048576) (hB:-2≤b∧b≤1048576):Bx Tryz.prog 75 [Ge x,.d (.int .i64 a),.d (.int .i64 b)] (.tup [Ge (Da x a b).1,.d (.int .i64 (Da x a b).2)]):=by
 obtain⟨⟨n1,n2,n3,n4,n5,n6⟩,-,-,-⟩:=AA hok;obtain⟨hF,hgl,hNi,hno⟩:=A7 hok;have hN:=Bp x;have hx:=BZ hok;have hg:=CJ hok;have kok:=Co x hx hg;rw[hok] at kok;have kn:=Bt x;rw[hno] at kn;have kc:=FA x hx;have kA:=Hl a (A0 x) (by unfold Jy;omega) (by omega);have kB:=Hl b (A0 x) (by unfold Jy;omega) (by omega);have hS:Da x a b=if DM a 0 (2*(A0 x:Int) - 1)=true∧DM b 0 (2*(A0 x:Int) - 1)=true then (Ap x (Ar x.2.2.1 a b),AZ (Aa x) x.2.2.1 a b) else (x,-1):=rfl;generalize Da x a b=R at *;refine B3 (by kernel_rfl) Tryz.func75 rfl rfl rfl ?_;simp[Ao];refine Ab (kc) ?_;simp[Ao];refine Ab (kn) ?_;simp[Ao];refine Ab (kok) ?_;simp[Ao];refine Ab (kA) ?_;simp
 cases hra:DM a 0 (2*(A0 x:Int) - 1) with
 | false =>
   rw[if_neg (by simp[hra])] at hS;subst hS;simp[hra,Ao]
 | true =>
 simp[hra];refine Ab (kB) ?_;simp
 cases hrb:DM b 0 (2*(A0 x:Int) - 1) with
 | false =>
   rw[if_neg (by simp[hrb])] at hS;subst hS;simp[hrb,Ao]
 | true =>
 rw[if_pos ⟨hra,hrb⟩] at hS;have ha:=AP.1 hra;have hb:=AP.1 hrb;have hV:AZ (Aa x) x.2.2.1 a b=if En a b=true then E9 a b else if Ey x.2.2.1 (HN a b,GD a b)<x.2.2.1.length then 2*(Aa x+Ey x.2.2.1 (HN a b,GD a b)) else if x.2.2.1.length<300 then 2*(Aa x+x.2.2.1.length) else -1:=rfl;have hM:A8 x.2.2.1 a b=(!En a b&&decide (¬ Ey x.2.2.1 (HN a b,GD a b)<x.2.2.1.length)&&decide (x.2.2.1.length<300)):=rfl;have hNN:Ar x.2.2.1 a b=if A8 x.2.2.1 a b=true then x.2.2.1++[(HN a b,GD a b)] else x.2.2.1:=rfl;have hx1:(if b<a then b else a)=HN a b:=rfl;have hx2:(if a<b then b else a)=GD a b:=rfl;have hT:En a b=(decide (a=0)||decide (b=0)||decide (Bl a 1=b)||decide (a=1)||decide (a=b)||decide (b=1)):=rfl;have hTv:E9 a b=if a=0∨b=0∨Bl a 1=b then 0 else if a=1∨a=b then b else a:=rfl;rw[Bo ha.1 (by omega)] at hT hTv;have hxb:Bl b 1=Af b:=Bo hb.1 (by omega);have hfl:=lX ha.1 hb.1;have hW:Ap x x.2.2.1=x:=rfl;generalize HN a b=mn at *;generalize GD a b=mx at *;generalize AZ (Aa x) x.2.2.1 a b=av at *;obtain⟨fb,hfb⟩:∃ fb,Af b=fb:=⟨_,rfl⟩;rw[hfb] at hxb hfl;generalize Af a=fa at *;by_cases hTT:En a b=true
 · have hm0:A8 x.2.2.1 a b=false:=by rw[hM,hTT];rfl
   rw[if_pos hTT] at hV;rw[hNN,if_neg (by simp[hm0]),hW] at hS;subst hV hS;by_cases h0:a=0
   · have hR:E9 a b=0:=by rw[hTv,if_pos (.inl h0)]
     simp[hrb,eq_true h0,show (a==0)=true by simpa using h0,hR,Ao]
   have q0:(a==0)=false:=by simpa using h0
   by_cases h1:b=0
   · have hR:E9 a b=0:=by rw[hTv,if_pos (.inr (.inl h1))]
     simp[hrb,h0,q0,eq_true h1,show (b==0)=true by simpa using h1,hR,Ao]
   have q1:(b==0)=false:=by simpa using h1
   by_cases h2:fa=b
   · have hR:E9 a b=0:=by rw[hTv,if_pos (.inr (.inr h2))]
     simp[hrb,h0,q0,h1,q1,hxb,eq_true (hfl.2 h2),show (a==fb)=true by simpa using hfl.2 h2,hR,Ao]
   have h2':¬ a=fb:=fun e=>h2 (hfl.1 e);have q2:(a==fb)=false:=by simpa using h2'
   by_cases h3:a=1
   · have hR:E9 a b=b:=by rw[hTv,if_neg (by omega),if_pos (.inl h3)]
     simp[hrb,h0,q0,h1,q1,hxb,h2',q2,eq_true h3,show (a==1)=true by simpa using h3,hR,Ao]
   have q3:(a==1)=false:=by simpa using h3
   by_cases h4:a=b
   · have hR:E9 a b=b:=by rw[hTv,if_neg (by omega),if_pos (.inr h4)]
     simp[hrb,h0,q0,h1,q1,hxb,h2',q2,h3,q3,eq_true h4,show (a==b)=true by simpa using h4,hR,Ao]
   have q4:(a==b)=false:=by simpa using h4
   have h5:b=1:=by rw[hT] at hTT;simpa [h0,h1,h2,h3,h4] using hTT
   have hR:E9 a b=a:=by rw[hTv,if_neg (by omega),if_neg (by omega)]
   simp[hrb,h0,q0,h1,q1,hxb,h2',q2,h3,q3,h4,q4,eq_true h5,show (b==1)=true by simpa using h5,hR,Ao]
 have hTf:En a b=false:=by simpa using hTT
 rw[hTf] at hM hV;rw[if_neg (by simp)] at hV;simp only[Bool.not_false,Bool.true_and] at hM;rw[hT] at hTf;simp only[Bool.or_eq_false_iff,decide_eq_false_iff_not] at hTf;obtain⟨⟨⟨⟨⟨h0,h1⟩,h2⟩,h3⟩,h4⟩,h5⟩:=hTf;have h2':¬ a=fb:=fun e=>h2 (hfl.1 e);have q0:(a==0)=false:=by simpa using h0
 have q1:(b==0)=false:=by simpa using h1
 have q2:(a==fb)=false:=by simpa using h2'
 have q3:(a==1)=false:=by simpa using h3
 have q4:(a==b)=false:=by simpa using h4
 have q5:(b==1)=false:=by simpa using h5
 simp[hrb,q0,q1,q2,q3,q4,q5,h0,h1,hxb,h2',h3,h4,h5,hx1,hx2];refine AB [false,false,false,true,false,false,true,false,true,true,true,true] (fun i:Nat=>i≤x.2.2.1.length∧∀ j:Nat,j<i→x.2.2.1[j]?≠some (mn,mx)) (fun i:Nat=>[(11,.d (.int .i64 i))]) (fun i:Nat=>[]) (fun i:Nat=>x.2.2.1.length - i) 0 ?_ ?_ ?_
 · exact⟨Nat.zero_le _,fun j h=>by omega⟩
 · exact⟨[0,1,2,3,4,5,6],by simp⟩
 rintro J S μ hJ hS' hμ i ⟨hi,hpre⟩;by_cases hlt:i<x.2.2.1.length
 · have hy:x.2.2.1[i]? = some x.2.2.1[i]:=zz0 hlt;have w1:IntKind.i64.wrap ((i:Int)+1)=(i:Int)+1:=Ad (by omega) (by omega);generalize x.2.2.1[i]=y at *;have hL:(At y).length=2:=rfl;by_cases he:y=(mn,mx)
   · subst he;have hf:Ey x.2.2.1 (mn,mx)=i:=Xg hy hpre;rw[hf,if_pos hlt] at hV;rw[hf,zz3 (by simpa using hlt)] at hM;rw[hNN,if_neg (by simp[hM]),hW,hV] at hS;subst hS;have w2:IntKind.i64.wrap (1+x.1+(x.2.1.length:Int)+(i:Int))=(Aa x:Int)+i:=by rw[Ad (by omega) (by omega)];omega
     have w3:IntKind.i64.wrap (2*((Aa x:Int)+(i:Int)))=2*((Aa x:Int)+i):=Ad (by omega) (by omega);simp[zz2 hlt];refine AJ 7 (by kernel_rfl) ?_;simp[hy,hL,At];refine Av [(6,[3,4,5]),(7,[])] (by kernel_rfl) ?_;simp[Ao];refine Ab (BE x ⟨n1,n2⟩ n3) ?_;simp[Ao,w2,w3]
   · have he2:(y.1==mn&&y.2==mx)=false:=by
      cases hc:(y.1==mn&&y.2==mx) with
      | false=>rfl
      | true=>simp only[Bool.and_eq_true,beq_iff_eq] at hc;exact absurd (Prod.ext hc.1 hc.2) he
     simp[zz2 hlt];refine AJ 7 (by kernel_rfl) ?_;simp[hy,hL,At,he2,w1]
     exact Ae hJ hS' hμ (i+1) ⟨by omega,fun j hj=>by
      by_cases hji:j=i
      · subst hji;rw[hy];exact fun e=>he (ABd e)
      · exact hpre j (by omega)⟩ (by omega) ⟨[0,1,2,3,4,5,6],by simp⟩
 obtain rfl:i=x.2.2.1.length:=by omega
 have hf:¬ Ey x.2.2.1 (mn,mx)<x.2.2.1.length:=by rw[QW hpre];omega
 rw[if_neg hf] at hV;by_cases h6:x.2.2.1.length=300
 · rw[if_neg (by omega)] at hV;rw[zz2 hf,zz3 (by omega)] at hM;rw[hNN,if_neg (by simp[hM]),hW,hV] at hS;subst hS;simp[zz3 hlt,hlt,show ((x.2.2.1.length:Int)==300)=true by simpa using (by omega:(x.2.2.1.length:Int)=300),show ((x.2.2.1.length:Int)=300) by omega,Ao]
 · rw[if_pos (by omega)] at hV;rw[zz2 hf,zz2 (show x.2.2.1.length<300 by omega)] at hM;rw[hNN,if_pos (by simpa using hM),hV] at hS;subst hS;have w3:IntKind.i64.wrap (2*(A0 x:Int))=2*((Aa x:Int)+x.2.2.1.length):=by rw[Ad (by omega) (by omega)];omega
   simp[zz3 hlt,hlt,show ((x.2.2.1.length:Int)==300)=false by simpa using (by omega:¬ (x.2.2.1.length:Int)=300),show ¬ ((x.2.2.1.length:Int)=300) by omega];refine Ak D0 rfl (by simp) rfl (by simp) (by simp) (by first | (simp;done)|(simp;omega)) (by simp[AR,AL]) ?_;simp[w3,Ao,Ap,At,e2,AC]
theorem FC {x:AK} {a b:Int} (hok:Al x=true):-1≤(Da x a b).2∧(Da x a b).2≤1000∧Al (Da x a b).1=true:=by
 obtain⟨⟨n1,n2,n3,n4,n5,n6⟩,-,-,-⟩:=AA hok;obtain⟨hF,hgl,hNi,hno⟩:=A7 hok;have hN:=Bp x;unfold Da;split
 · rename_i h;have ha:=AP.1 h.1;have hb:=AP.1 h.2;have hr:=BL (fa:=Aa x) (an:=x.2.2.1) (a:=a) (b:=b) (by omega) (by omega) (by omega);have h3:=Bu (a:=a) (b:=b) n4;exact⟨hr.1,by simp only;omega,Ye hok (by omega) (by omega)⟩
 · exact⟨by simp,by simp,hok⟩
theorem L0 {v:Int} (h:-1≤v∧v≤1000000):-2≤C4 v∧C4 v≤1048576:=by
 unfold C4 Af;split
 · omega
 · split<;>omega
theorem IA (x:AK) (a b:Int) (hok:Al x=true) (hA:-1≤a∧a≤1000000) (hB:-1≤b∧b≤1000000):Bx Tryz.prog 39 [Ge x,.d (.int .i64 a),.d (.int .i64 b)] (.tup [Ge (J5 x a b).1,.d (.int .i64 (J5 x a b).2)]):=by
 have kA:=IL a (by omega);have kB:=IL b (by omega);have k:=DI x (C4 a) (C4 b) hok (L0 hA) (L0 hB);obtain⟨s1,s2,s3⟩:=FC (x:=x) (a:=C4 a) (b:=C4 b) hok;have hx:=BZ hok;have hS:J5 x a b=if (Da x (C4 a) (C4 b)).2<0 then (x,-1) else ((Da x (C4 a) (C4 b)).1,Af (Da x (C4 a) (C4 b)).2):=rfl;generalize J5 x a b=R at *;generalize Da x (C4 a) (C4 b)=q at *;refine B3 (by kernel_rfl) Tryz.func39 rfl rfl rfl ?_;simp[Ao];refine Av [(10,[8]),(11,[])] (by kernel_rfl) ?_;simp[Ao];refine Ab (kA) ?_;simp;refine Ab (kB) ?_;simp;refine Ab (k) ?_;simp[Ao];by_cases hq:q.2<0
 · rw[if_pos hq] at hS;subst hS;simp[hq,zz2 hq,show ¬ 0≤q.2 by omega];refine Ab (FA x hx) ?_;simp[Ao]
 · have hz:Bl q.2 1=Af q.2:=Bo (by omega) (by omega);rw[if_neg hq] at hS;subst hS;simp[hq,zz3 hq,show 0≤q.2 by omega,hz,Ao]
theorem Ls {x:AK} {a b:Int} (hok:Al x=true):-1≤(J5 x a b).2∧(J5 x a b).2≤1001∧Al (J5 x a b).1=true:=by
 obtain⟨s1,s2,s3⟩:=FC (x:=x) (a:=C4 a) (b:=C4 b) hok;unfold J5;split
 · exact⟨by simp,by simp,hok⟩
 · have:=Bb (v:=(Da x (C4 a) (C4 b)).2) (by omega);exact⟨by simp only;omega,by simp only;omega,s3⟩
theorem ZB (x m:AK) (p q:Int) (hx:Al x=true) (hm:Al m=true) (hp:-1≤p∧p≤1000000) (hq:-1≤q∧q≤1000000):Bx Tryz.prog 83 [Ge x,Ge m,.d (.int .i64 p),.d (.int .i64 q)] (.tup [Ge (Ji x m p q).1,.d (.int .i64 (Ji x m p q).2)]):=by
 have k:=IA m p q hm hp hq;have hf:=BZ hx;have hS:Ji x m p q=if (J5 m p q).2<0 then (x,-1) else J5 m p q:=rfl;generalize Ji x m p q=R at *;generalize J5 m p q=r at *;refine A5 (by kernel_rfl) Tryz.func83 rfl rfl rfl ?_;simp[Ao];refine Ab (k) ?_;simp[Ao];by_cases hr:r.2<0
 · rw[if_pos hr] at hS;subst hS;simp[hr,zz2 hr,show ¬ 0≤r.2 by omega];refine Ab (FA x hf) ?_;simp[Ao]
 · rw[if_neg hr] at hS;subst hS;simp[hr,zz3 hr,show 0≤R.2 by omega,Ao]
theorem Vf (x:AK) (a b:Int) (hok:Al x=true) (hA:-1≤a∧a≤1000000) (hB:-1≤b∧b≤1000000):Bx Tryz.prog 38 [Ge x,.d (.int .i64 a),.d (.int .i64 b)] (.tup [Ge (NZ x a b).1,.d (.int .i64 (NZ x a b).2)]):=by
 have kA:=IL a (by omega);have kB:=IL b (by omega);have rA:=L0 hA;have rB:=L0 hB;have k1:=DI x a (C4 b) hok (by omega) rB;obtain⟨p1,p2,p3⟩:=FC (x:=x) (a:=a) (b:=C4 b) hok;have hS:NZ x a b=Ji x (Da (Da x a (C4 b)).1 (C4 a) b).1 (Da x a (C4 b)).2 (Da (Da x a (C4 b)).1 (C4 a) b).2:=rfl;generalize NZ x a b=R at *;generalize Da x a (C4 b)=q1 at *;have k2:=DI q1.1 (C4 a) b p3 rA (by omega);obtain⟨r1,r2,r3⟩:=FC (x:=q1.1) (a:=C4 a) (b:=b) p3;generalize Da q1.1 (C4 a) b=q2 at *;have k3:=ZB x q2.1 q1.2 q2.2 hok r3 (by omega) (by omega);subst hS;generalize Ji x q2.1 q1.2 q2.2=R at *;refine B3 (by kernel_rfl) Tryz.func38 rfl rfl rfl ?_;simp[Ao];refine Av [(9,[7]),(10,[])] (by kernel_rfl) ?_;simp[Ao];refine Ab (kB) ?_;simp;refine Ab (k1) ?_;simp[Ao];refine Av [(8,[7]),(9,[])] (by kernel_rfl) ?_;simp[Ao];refine Ab (kA) ?_;simp;refine Ab (k2) ?_;simp[Ao];refine Ab (k3) ?_;simp[Ao]
abbrev RW (x:AK):V:=.agg [.d (.int .i64 x.1),.d (Dh 57 AY x.2.1),.d (Dh 63 At x.2.2.1),.d (Dh 3 (e1 AC) x.2.2.2)]
abbrev ED (x:AK):Ah:=.var 28 [.d (.int .i64 x.1),.d (Dh 57 AY x.2.1),.d (Dh 63 At x.2.2.1),.d (Dh 3 (e1 AC) x.2.2.2)]
def cT (i:Nat) (m:AK) (to:List Int) (sl:List Ah):List Ah:=if i=0 then sl else (sl.set 0 .dead).set 1 (ED m)++[.arr 3 true (to.map (e1 AC))]
def cQ (i:Nat):V:=if i=0 then .ref 0 else .ref 4
theorem Lj {x:AK} {fa skip inst:Int} {to0:List Int} {an0:List Ai} {i:Nat} (h:(B0 x fa skip inst to0 an0 i).2.2=false):∀ d,B0 x fa skip inst to0 an0 (i+d)=B0 x fa skip inst to0 an0 i
 | 0=>rfl
 | d+1=>by
   have ih:=Lj h d;rw[←Nat.add_assoc,B0,if_pos (by rw[ih];exact h),ih]
theorem WB {x:AK} {fa skip inst:Int} {to0:List Int} {an0:List Ai}:∀ i,∃ r,(B0 x fa skip inst to0 an0 i).1=to0++r
 | 0=>⟨[],by simp[B0]⟩
 | i+1=>by
   obtain⟨r,hr⟩:=WB (x:=x) (fa:=fa) (skip:=skip) (inst:=inst) (to0:=to0) (an0:=an0) i;unfold B0;split
   · exact⟨r,hr⟩
   · split
     · exact⟨r++[inst],by simp[hr]⟩
     · split
       · exact⟨r,hr⟩
       · exact⟨r++[AZ fa (B0 x fa skip inst to0 an0 i).2.1 (Aq (B0 x fa skip inst to0 an0 i).1 (Aj x (Aa x+i)).1) (Aq (B0 x fa skip inst to0 an0 i).1 (Aj x (Aa x+i)).2)],by simp only[hr,AB2]⟩
theorem TL (m n:AK) (to0:List Int) (skip inst:Int) (c:Bool) (hm:Al m=true) (hn:Al n=true) (hI:Jr (Aa m) (Aa n) (to0,m.2.2.1,true)) (hi:0≤inst∧inst<2*(Aa m:Int))
 (hc:c=decide ((B0 n (Aa m) skip inst to0 m.2.2.1 n.2.2.1.length).1.length≠to0.length)) :
 CG Tryz.prog 81 [RW m,.ref 0,RW n,.d (.int .i64 skip),.d (.int .i64 inst)] [.arr 3 true (to0.map (e1 AC))]
  (.tup [RW (Ap m (B0 n (Aa m) skip inst to0 m.2.2.1 n.2.2.1.length).2.1),.ref (if c=true then 1 else 0),.d (.bool (B0 n (Aa m) skip inst to0 m.2.2.1 n.2.2.1.length).2.2)])
  (if c=true then [.dead,.arr 3 true ((B0 n (Aa m) skip inst to0 m.2.2.1 n.2.2.1.length).1.map (e1 AC))] else [.arr 3 true (to0.map (e1 AC))]):=by
 obtain⟨⟨n1,n2,n3,n4,n5,n6⟩,-,-,-⟩:=AA hn;obtain⟨⟨m1,m2,m3,m4,m5,m6⟩,-,-,-⟩:=AA hm;obtain⟨hF,hgl,hNi,hno⟩:=A7 hn;obtain⟨hFm,hglm,hNim,hnom⟩:=A7 hm;have hN:=Bp n;have hNm:=Bp m;have hII:=fun i hi'=>LK hn (fa:=Aa m) (skip:=skip) (inst:=inst) (by omega) hi hI i hi';generalize hR:B0 n (Aa m) skip inst to0 m.2.2.1 n.2.2.1.length=R at *;refine BA (by kernel_rfl) Tryz.func81 rfl rfl rfl (by cases c<;>simp[Bi,Later]) (by simp[BN,Ah.live]) ?_;simp;refine AH [false,true,false,true,true,true,false,true,false,false,true,false,false,true] (fun i:Nat=>i≤n.2.2.1.length∧(B0 n (Aa m) skip inst to0 m.2.2.1 i).2.2=true) (fun i:Nat=>[(1,cQ i),(13,.d (.int .i64 i))]) (fun i:Nat=>cT i (Ap m (B0 n (Aa m) skip inst to0 m.2.2.1 i).2.1) (B0 n (Aa m) skip inst to0 m.2.2.1 i).1) (fun i:Nat=>n.2.2.1.length - i) 0 ?_ ?_ ?_
 · exact⟨Nat.zero_le _,rfl⟩
 · exact⟨[0,1,2,3],by simp[cT,cQ]⟩
 have hto0:to0.length=Aa n:=hI.len rfl;rintro I S μ hJ hS hμ i ⟨hile,hio⟩;obtain⟨q1,q2⟩:=hII i hile;obtain⟨⟨to,an,bb⟩,hst⟩:∃ s,B0 n (Aa m) skip inst to0 m.2.2.1 i=s:=⟨_,rfl⟩;rw[hst] at hio q1 q2;simp only at hio q2;subst hio;have hl:=q1.len rfl;have hpl:=q1.pl;have ha3:=q1.an;have han:=q1.ok;simp only at hl hpl ha3 han;have hokA:=CS hm q2 ha3 han;rw[hst];by_cases hlt:i<n.2.2.1.length
 case neg =>
  obtain rfl:i=n.2.2.1.length:=by omega
  rw[hst] at hR;subst hR;simp only at hc;by_cases hi0:n.2.2.1.length=0
  · obtain rfl:c=false:=by rw[hc];simp;omega
    rw[hi0] at hst;have e0:(to0,m.2.2.1,true)=(to,an,true):=hst;simp only[Prod.mk.injEq] at e0;obtain⟨rfl,rfl,-⟩:=e0;simp[cT,cQ,hi0,Ap];exact⟨[0],by simp⟩
  · obtain rfl:c=true:=by rw[hc];simp;omega
    simp[cT,cQ,hi0,Ap,zz3 hlt,hlt];exact⟨[0,4],by simp⟩
 obtain⟨hA,a1,a2,a3,a4,a5,a6⟩:=CW hn (v:=Aa n+i) (by omega) (by omega);rw[Nat.add_sub_cancel_left] at hA
 have hstp:B0 n (Aa m) skip inst to0 m.2.2.1 (i+1)=if (i:Int)=skip then (to++[inst],an,true) else if AZ (Aa m) an (Aq to (Aj n (Aa n+i)).1) (Aq to (Aj n (Aa n+i)).2)<0 then (to,an,false) else (to++[AZ (Aa m) an (Aq to (Aj n (Aa n+i)).1) (Aq to (Aj n (Aa n+i)).2)],Ar an (Aq to (Aj n (Aa n+i)).1) (Aq to (Aj n (Aa n+i)).2),true):=by
  rw[B0,hst];simp only[Bool.true_eq_false,if_false]
 have kM:=EG to [(Aj n (Aa n+i)).1,(Aj n (Aa n+i)).2] (by omega) (by simp) (fun l hl'=>by
  simp only[List.mem_cons,List.not_mem_nil,or_false] at hl'
  rcases hl' with rfl|rfl<;>omega)
 have r1:=Bn (l:=(Aj n (Aa n+i)).1) (BH hpl (by omega) ((Aj n (Aa n+i)).1 / 2)) (by omega);have r2:=Bn (l:=(Aj n (Aa n+i)).2) (BH hpl (by omega) ((Aj n (Aa n+i)).2 / 2)) (by omega);generalize Aj n (Aa n+i)=A at *;have hL:(At A).length=2:=rfl;simp only[List.map_cons,List.map_nil] at kM;generalize Aq to A.1=x1 at *;generalize Aq to A.2=x2 at *;have kD:=DI (Ap m an) x1 x2 hokA (by omega) (by omega);rw[F6 (by rw[Cq];omega) (by rw[Cq];omega)] at kD;have e1':Ap (Ap m an) (Ar (Ap m an).2.2.1 x1 x2)=Ap m (Ar an x1 x2):=rfl;have e2':AZ (Aa (Ap m an)) (Ap m an).2.2.1 x1 x2=AZ (Aa m) an x1 x2:=rfl;rw[e1',e2'] at kD;have w1:IntKind.i64.wrap ((i:Int)+1)=(i:Int)+1:=Ad (by omega) (by omega);generalize AZ (Aa m) an x1 x2=v at *;generalize Ar an x1 x2=an2 at *;by_cases hi0:i=0
 · subst hi0;have e0:(to0,m.2.2.1,true)=(to,an,true):=hst;simp only[Prod.mk.injEq] at e0;obtain⟨rfl,rfl,-⟩:=e0;by_cases hsk:((0:Nat):Int)=skip
   · rw[if_pos hsk] at hstp;subst hsk;simp[cT,cQ,hlt,zz2 hlt];refine Ak As rfl (by simp) rfl (by simp) (by simp) (by first | (simp;done)|(simp;omega)) (by simp[AR,AL]) ?_;simp[w1,show IntKind.i64.wrap 1=1 from rfl];exact Ae hJ hS hμ 1 ⟨by omega,by rw[show (1:Nat)=0+1 from rfl,hstp]⟩ (by omega) ⟨[0,1,2,3,5],by rw[show (1:Nat)=0+1 from rfl,hstp];simp[cT,cQ,Ap,e1,AC]⟩
   rw[if_neg hsk] at hstp;simp[cT,cQ,hlt,zz2 hlt,show ¬ (0:Int)=skip by simpa using hsk,show ((0:Int)==skip)=false by simpa using hsk];refine AJ 16 (by kernel_rfl) ?_;simp[hA,hL,At];refine Ab (kM) ?_;simp;refine Av [(12,[10]),(13,[])] (by kernel_rfl) ?_;simp;refine Ab (kD) ?_;simp[Ap,Ao];by_cases hv:v<0
   · rw[if_pos hv] at hstp;have hRR:=Lj (show (B0 n (Aa m) skip inst to0 m.2.2.1 (0+1)).2.2=false by rw[hstp]) (n.2.2.1.length - 1);rw[show 0+1+(n.2.2.1.length - 1)=n.2.2.1.length by omega,hR,hstp] at hRR;subst hRR;obtain rfl:c=false:=by rw[hc];simp
     simp[hv,zz2 hv,show ¬ 0≤v by omega,Ap];exact⟨[0],by simp⟩
   rw[if_neg hv] at hstp;simp[hv,zz3 hv,show 0≤v by omega];refine Ak As rfl (by simp) rfl (by simp) (by simp) (by first | (simp;done)|(simp;omega)) (by simp[AR,AL]) ?_;simp[w1,show IntKind.i64.wrap 1=1 from rfl];exact Ae hJ hS hμ 1 ⟨by omega,by rw[show (1:Nat)=0+1 from rfl,hstp]⟩ (by omega) ⟨[0,1,2,3,11],by rw[show (1:Nat)=0+1 from rfl,hstp];simp[cT,cQ,Ap,e1,AC]⟩
 · by_cases hsk:(i:Int)=skip
   · rw[if_pos hsk] at hstp;subst hsk;simp[cT,cQ,hi0,zz2 hlt];refine Ak As rfl (by simp) rfl (by simp) (by simp) (by first | (simp;done)|(simp;omega)) (by simp[AR,AL]) ?_;simp[w1];exact Ae hJ hS hμ (i+1) ⟨by omega,by rw[hstp]⟩ (by omega) ⟨[0,1,2,3,6],by simp[hstp,cT,cQ,Ap,e1,AC]⟩
   rw[if_neg hsk] at hstp;simp[cT,cQ,hi0,zz2 hlt,hsk,show ((i:Int)==skip)=false by simpa using hsk];refine AJ 16 (by kernel_rfl) ?_;simp[hA,hL,At];refine Ab (kM) ?_;simp;refine Av [(12,[10]),(13,[])] (by kernel_rfl) ?_;simp;refine Ab (kD) ?_;simp[Ap,Ao];by_cases hv:v<0
   · rw[if_pos hv] at hstp;have hRR:=Lj (show (B0 n (Aa m) skip inst to0 m.2.2.1 (i+1)).2.2=false by rw[hstp]) (n.2.2.1.length - (i+1));rw[show i+1+(n.2.2.1.length - (i+1))=n.2.2.1.length by omega,hR,hstp] at hRR;subst hRR;obtain rfl:c=true:=by rw[hc];simp;omega
     simp[hv,zz2 hv,show ¬ 0≤v by omega,Ap];exact⟨[0,4],by simp⟩
   rw[if_neg hv] at hstp;simp[hv,zz3 hv,show 0≤v by omega];refine Ak As rfl (by simp) rfl (by simp) (by simp) (by first | (simp;done)|(simp;omega)) (by simp[AR,AL]) ?_;simp[w1];exact Ae hJ hS hμ (i+1) ⟨by omega,by rw[hstp]⟩ (by omega) ⟨[0,1,2,3,12],by simp[hstp,cT,cQ,Ap,e1,AC]⟩
def Oy (m n:AK):List Int×List Ai×Bool:=B0 n (Aa m) (-1) 0 (BB (Aa n)) m.2.2.1 n.2.2.1.length
def HH (m n:AK):List Int:=if (Oy m n).2.2=true then Bm n (Oy m n).1 else []
theorem JK (m n:AK) (hm:Al m=true) (hn:Al n=true) (hF0:Aa n=Aa m) (hm0:Jr (Aa m) (Aa n) (BB (Aa n),m.2.2.1,true)) :
 CG Tryz.prog 37 [RW m,RW n] [] (.tup [RW (Ap m (Oy m n).2.1),.d (Dh 3 (e1 AC) (HH m n)),.d (.bool (Oy m n).2.2)]) []:=by
 obtain⟨⟨n1,n2,n3,n4,n5,n6⟩,-,-,-⟩:=AA hn;obtain⟨hF,hgl,hNi,hno⟩:=A7 hn;obtain⟨hFm,hglm,hNim,hnom⟩:=A7 hm;have hN:=Bp n;have kI:=TL m n (BB (Aa n)) (-1) 0 _ hm hn hm0 (by omega) rfl;have hB:Oy m n=B0 n (Aa m) (-1) 0 (BB (Aa n)) m.2.2.1 n.2.2.1.length:=rfl;have hII:=LK hn (fa:=Aa m) (skip:=-1) (inst:=0) (by omega) (by omega) hm0 n.2.2.1.length (Nat.le_refl _);have hRt:HH m n=if (Oy m n).2.2=true then Bm n (Oy m n).1 else []:=rfl;rw[←hB] at kI hII;have hroots:=Jl n (BZ hn) n3;have hrlen:=FR (x:=n) (k:=n.2.1.length) (M:=4) (fun s hs=>DE ((AA hn).2.1 s hs));rw[FU] at hrlen;generalize HH m n=rt at *;obtain⟨⟨to,an,ok⟩,hq⟩:∃ q,Oy m n=q:=⟨_,rfl⟩;rw[hq] at kI hII hRt;rw[hq];obtain⟨q1,-⟩:=hII;have hlen:=q1.len;simp only at kI hRt hlen
 have hmap:=fun h:ok=true=>EG to (Ay n) (by have:=hlen h;omega) (by omega) (fun l hl=>by
  have:=OI hn hl;have:=hlen h;unfold VL at *
  omega)
 have hrM:(Ay n).map (Aq to)=Bm n to:=rfl;rw[hrM] at hmap;generalize hcd:decide (to.length≠(BB (Aa n)).length)=cc at kI;refine BA (by kernel_rfl) Tryz.func37 rfl rfl rfl (by simp[Bi,Later]) (by simp[BN,Ah.live]) ?_;simp;refine AB [false,false,true,true,true,false,false,true,true] (fun i:Nat=>i≤Aa n) (fun i:Nat=>[(8,.d (.int .i64 i))]) (fun i:Nat=>[(3,.arr 3 true ((BB i).map (e1 AC)))]) (fun i:Nat=>Aa n - i) 0 ?_ ?_ ?_
 · exact Nat.zero_le _
 · exact⟨[0,1,2,3],by simp[BB]⟩
 rintro I S μ hI hS hμ i hi;by_cases hlt:i<Aa n
 · have w1:IntKind.i64.wrap ((i:Int)+1)=(i:Int)+1:=Ad (by omega) (by omega);have w2:IntKind.i64.wrap (2*(i:Int))=2*(i:Int):=Ad (by omega) (by omega);have hll:=CO (n:=i);have hsn:=Lq (n:=i);generalize BB i=p at *;simp[Ao];refine Ab (BE n ⟨n1,n2⟩ n3) ?_;simp[Ao,show (i:Int)<1+n.1+n.2.1.length by omega,w2];refine Ak As rfl (by simp) rfl (by simp) (by simp) (by first | (simp;done)|(simp;omega)) (by simp[AR,AL]) ?_;simp[w1];exact Ae hI hS hμ (i+1) (by omega) (by omega) ⟨[0,1,2,5],by simp[hsn,e1,AC]⟩
 obtain rfl:i=Aa n:=by omega
 simp[Ao];refine Ab (BE n ⟨n1,n2⟩ n3) ?_;simp[Ao,show ¬ ((Aa n:Nat):Int)<1+n.1+n.2.1.length by omega]
 cases cc with
 | true =>
   simp only[if_true] at kI;refine Ac (kI) [] [3] (by simp) ?_;simp[Ap]
   cases ok with
   | false =>
     rw[if_neg (by simp)] at hRt;subst hRt;simp[Ap];exact⟨[],by simp[Ap]⟩
   | true =>
     rw[if_pos rfl] at hRt;subst hRt;have hmm:=hmap rfl;simp;refine Av [(5,[]),(6,[]),(7,[])] (by kernel_rfl) ?_;simp[Ao];refine Ab (hroots) ?_;simp[Ao];refine Ab (hmm) ?_;simp;exact⟨[],by simp[Ap]⟩
 | false =>
   simp only[Bool.false_eq_true,if_false] at kI;have htl:to.length=(BB (Aa n)).length:=by simpa using hcd
   obtain⟨r,hpre⟩:=WB (x:=n) (fa:=Aa m) (skip:=-1) (inst:=0) (to0:=BB (Aa n)) (an0:=m.2.2.1) n.2.2.1.length;rw[←hB,hq] at hpre;simp only at hpre
   obtain rfl:r=[]:=by
    rw[hpre,AB0] at htl;exact zz7 (by omega)
   rw[List.append_nil] at hpre;subst hpre;refine Ac (kI) [] [3] (by simp) ?_;simp[Ap]
   cases ok with
   | false =>
     rw[if_neg (by simp)] at hRt;subst hRt;simp[Ap];exact⟨[],by simp[Ap]⟩
   | true =>
     rw[if_pos rfl] at hRt;subst hRt;have hmm:=hmap rfl;simp;refine Av [(5,[]),(6,[]),(7,[])] (by kernel_rfl) ?_;simp[Ao];refine Ab (hroots) ?_;simp[Ao];refine Ab (hmm) ?_;simp;exact⟨[],by simp[Ap]⟩
theorem ZS {P:Program} {f:FuncId} {x:V} {ys:List V} {t1 t2 t3 u1 u2 u3:TypeId} {sl sl':List Ah} {r:V} (h:CG P f (.agg [x,.d (.sl t1 []),.d (.sl t2 []),.d (.sl t3 [])]::ys) sl r sl'):CG P f (.agg [x,.nil u1,.nil u2,.nil u3]::ys) sl r sl':=by
 refine⟨h.1,h.2.1,fun w φ Fs R hR vs hm hl hv=>h.2.2 w φ Fs R hR vs hm (by simpa using hl) fun i y v hx hv'=>?_⟩
 match i with
 | i+1=>exact hv (i+1) y v (by simpa using hx) hv'
 | 0 =>
   simp at hx;subst hx;have h0:=hv 0 _ v rfl hv'
   cases h0 with
   | @agg _ vs hl1 h1 h2 =>
     refine .agg (by simpa using hl1) h1 fun i y v hy hvv=>?_
     match i with
     | 0=>exact h2 0 y v (by simpa using hy) hvv
     | 1 =>
       simp at hy;subst hy;have:=h2 1 (.nil u1) v rfl hvv
       cases this;exact .d (.nil _ _ _)
     | 2 =>
       simp at hy;subst hy;have:=h2 2 (.nil u2) v rfl hvv
       cases this;exact .d (.nil _ _ _)
     | 3 =>
       simp at hy;subst hy;have:=h2 3 (.nil u3) v rfl hvv
       cases this;exact .d (.nil _ _ _)
     | i+4=>simp at hy
theorem NQ {x:AK} {a b:Int} (hok:Al x=true):Al (NZ x a b).1=true:=by
 obtain⟨-,-,p3⟩:=FC (x:=x) (a:=a) (b:=C4 b) hok;obtain⟨-,-,r3⟩:=FC (x:=(Da x a (C4 b)).1) (a:=C4 a) (b:=b) p3;unfold NZ Ji;split
 · exact hok
 · exact (Ls r3).2.2
theorem VQ (a b:AK) (ha:Cz 1048576 a) (hb:Cz 1048576 b) (ga:JO a) (gb:JO b):CG Tryz.prog 16 [RW a,RW b] [] (.tup [RW (Fg a b),.d (.bool (Ea a b))]) []:=by
 have hB:GL a b=(Al a&&Al b&&decide (a.1=b.1)&&decide (a.2.1.length=b.2.1.length)&&decide (a.2.2.2.length=b.2.2.2.length)&&decide (a.1+(a.2.1.length:Int)≤20)&&(a.2.1.zip b.2.1).all fun p=>decide (p.1.1=p.2.1)):=rfl;have hO:Ea a b=(GL a b&&(Cm a).2.2&&(Cs a b).2.2&&(DC a b).2.2):=rfl;have hG:Fg a b=if Ea a b=true then (a.1+(a.2.1.length:Int),[],(DC a b).2.1,[(DC a b).1]) else (0,[],[],[]):=rfl;have ka:=Co a ha ga;have kb:=Co b hb gb;generalize Fg a b=G at *;generalize Ea a b=O at *
 have hzero:GL a b=false→O=false∧G=(0,[],[],[]):=fun h=>by
  rw[h] at hO;simp only[Bool.false_and] at hO;rw[hO,if_neg (by simp)] at hG;exact⟨hO,hG⟩
 have hcp:=G9 (a:=a) (b:=b);generalize GL a b=C at *;refine BA (by kernel_rfl) Tryz.func16 rfl rfl rfl (by simp[Bi,Later]) (by simp[BN,Ah.live]) ?_;simp
 cases hoa:Al a with
 | false =>
   rw[hoa] at ka hB;simp only[Bool.false_and] at hB;obtain⟨rfl,rfl⟩:=hzero hB;refine Ab (ka) ?_;simp[Ao];exact⟨[],by simp⟩
 | true =>
 rw[hoa] at ka hB;simp only[Bool.true_and] at hB;obtain⟨⟨n1,n2,n3,n4,n5,n6⟩,-,-,-⟩:=AA hoa;refine Ab (ka) ?_;simp[Ao]
 cases hob:Al b with
 | false =>
   rw[hob] at kb hB;simp only[Bool.false_and] at hB;obtain⟨rfl,rfl⟩:=hzero hB;refine Ab (kb) ?_;simp[Ao];exact⟨[],by simp⟩
 | true =>
 rw[hob] at kb hB;simp only[Bool.true_and] at hB;obtain⟨⟨m1,m2,m3,m4,m5,m6⟩,-,-,-⟩:=AA hob;by_cases h1:a.1=b.1
 case neg =>
  rw[zz3 h1] at hB;simp only[Bool.false_and] at hB;obtain⟨rfl,rfl⟩:=hzero hB;refine Ab (kb) ?_;simp[Ao,h1,show (a.1 != b.1)=true by simpa using h1];exact⟨[],by simp⟩
 rw[zz2 h1] at hB;simp only[Bool.true_and] at hB;by_cases h2:a.2.1.length=b.2.1.length
 case neg =>
  rw[zz3 h2] at hB;simp only[Bool.false_and] at hB;obtain⟨rfl,rfl⟩:=hzero hB;refine Ab (kb) ?_;simp[Ao,h1,h2,show ((a.2.1.length:Int) != (b.2.1.length:Int))=true by simpa using (by omega:¬ (a.2.1.length:Int)=b.2.1.length)];exact⟨[],by simp⟩
 rw[zz2 h2] at hB;simp only[Bool.true_and] at hB;by_cases h3:a.2.2.2.length=b.2.2.2.length
 case neg =>
  rw[zz3 h3] at hB;simp only[Bool.false_and] at hB;obtain⟨rfl,rfl⟩:=hzero hB;refine Ab (kb) ?_;simp[Ao,h1,h2,h3,show ((a.2.2.2.length:Int) != (b.2.2.2.length:Int))=true by simpa using (by omega:¬ (a.2.2.2.length:Int)=b.2.2.2.length)];exact⟨[],by simp⟩
 rw[zz2 h3] at hB;simp only[Bool.true_and] at hB;have w1:IntKind.i64.wrap (b.1+(b.2.1.length:Int))=b.1+b.2.1.length:=Ad (by omega) (by omega);by_cases h4:a.1+(a.2.1.length:Int)≤20
 case neg =>
  rw[zz3 h4] at hB;simp only[Bool.false_and] at hB;obtain⟨rfl,rfl⟩:=hzero hB;refine Ab (kb) ?_;simp[Ao,h1,h2,h3,w1,show (20:Int)<b.1+b.2.1.length by omega,show ¬ b.1+(b.2.1.length:Int)≤20 by omega];exact⟨[],by simp⟩
 rw[zz2 h4] at hB;simp only[Bool.true_and] at hB;refine Ab (kb) ?_;simp[Ao,h1,h2,h3,w1,show ¬ (20:Int)<b.1+b.2.1.length by omega,show b.1+(b.2.1.length:Int)≤20 by omega];obtain⟨zs,hzs⟩:∃ zs,a.2.1.zip b.2.1=zs:=⟨_,rfl⟩;rw[hzs] at hB;have hzl:zs.length=b.2.1.length:=by rw[←hzs];simp;omega
 refine AB [false,false,true,true,true,false,true] (fun i:Nat=>i≤zs.length∧((zs.take i).all fun p=>decide (p.1.1=p.2.1))=true) (fun i:Nat=>[(6,.d (.int .i64 i))]) (fun i:Nat=>[]) (fun i:Nat=>zs.length - i) 0 ?_ ?_ ?_
 · exact⟨Nat.zero_le _,rfl⟩
 · exact⟨[0,1,2],by simp⟩
 rintro J S μ hJ hS hμ i ⟨hi,hal⟩;by_cases hlt:i<zs.length
 · have hz1:zs[i]? = some zs[i]:=zz0 hlt;have hsn:=C6 (p:=fun p:Cr×Cr=>decide (p.1.1=p.2.1)) hz1;rw[hal,Bool.true_and] at hsn
   have hno:decide ((zs[i]).1.1=(zs[i]).2.1)=false→(zs.all fun p=>decide (p.1.1=p.2.1))=false:=fun h=>by
    rw[List.all_eq_false];exact⟨_,zz6 hz1,by simpa using h⟩
   have hz2:(a.2.1.zip b.2.1)[i]? = some zs[i]:=(congrArg (fun q:List (Cr×Cr)=>q[i]?) hzs).trans hz1;rw[List.getElem?_zip_eq_some] at hz2;obtain⟨z1,z2⟩:=hz2;have w2:IntKind.i64.wrap ((i:Int)+1)=(i:Int)+1:=Ad (by omega) (by omega);generalize zs[i]=z at *;obtain⟨sa,sb⟩:=z;simp only at z1 z2 hsn hno;have hLa:(AY sa).length=3:=rfl;have hLb:(AY sb).length=3:=rfl;have hd:decide (i<b.2.1.length)=true:=zz2 (by omega);by_cases hk:sa.1=sb.1
   · rw[zz2 hk] at hsn;simp[h2,hd];refine AJ 13 (by kernel_rfl) ?_;simp[z1,z2,hLa,hLb,AY,hk,w2];exact Ae hJ hS hμ (i+1) ⟨by omega,hsn⟩ (by omega) ⟨[0,1,2],by simp⟩
   · rw[hno (zz3 hk)] at hB;obtain⟨rfl,rfl⟩:=hzero hB;simp[h2,hd];refine AJ 13 (by kernel_rfl) ?_;simp[z1,z2,hLa,hLb,AY,hk,show (sa.1 != sb.1)=true by simpa using hk];exact⟨[],by simp⟩
 obtain rfl:i=zs.length:=by omega
 rw[List.take_length] at hal;rw[hal] at hB;obtain⟨-,-,-,-,-,-,hfb,hrl⟩:=hcp hB;clear hJ hS hμ hzero hcp;rw[hB] at hO;simp only[Bool.true_and] at hO;obtain⟨hFa,hga,hNa,-⟩:=A7 hoa;obtain⟨hFb,hgb,hNb,-⟩:=A7 hob;have hNea:=Bp a;have hNeb:=Bp b;obtain⟨I,hI⟩:∃ I,b.1+(b.2.1.length:Int)=I:=⟨_,rfl⟩;have hI':a.1+(a.2.1.length:Int)=I:=by omega
 rw[hI] at w1;rw[hI'] at hG;have hI20:0≤I∧I≤20:=by omega
 have hfm:Aa ((I,[],[],[]):AK)=Aa a:=by unfold Aa;simp;unfold Aa at hFa;omega
 have hm0:Al ((I,[],[],[]):AK)=true:=by
  unfold Al Bw;rw[if_pos ⟨AP.2 (by omega),by simp,by simp,by simp⟩];simp[Ay,IB,BR];omega
 have i1:Jr (Aa ((I,[],[],[]):AK)) (Aa a) (BB (Aa a),([]:List Ai),true):=⟨fun _=>CO,Nat.le_of_eq CO,HB (by simp only[hfm];simp),by simp,rfl⟩;have k1:=JK ((I,[],[],[]):AK) a hm0 hoa hfm.symm i1;have e1':Oy ((I,[],[],[]):AK) a=Cm a:=by unfold Oy Cm C9;rw[hfm]
 have p1:=G5 (x:=a) hoa (an0:=[]) (by simp) rfl (i:=a.2.2.1.length) (Nat.le_refl _);have hi1:C9 a [] a.2.2.1.length=Cm a:=rfl;rw[hi1] at p1;have eR:HH ((I,[],[],[]):AK) a=if (Cm a).2.2=true then Bm a (Cm a).1 else []:=by unfold HH;rw[e1']
 rw[e1',eR] at k1;have k1':=ZS (u1:=57) (u2:=63) (u3:=3) k1;obtain⟨⟨tA,an1,okA⟩,hq1⟩:∃ q,Cm a=q:=⟨_,rfl⟩;rw[hq1] at k1' p1 hO;simp only at k1' p1 hO
 cases okA with
 | false =>
   simp only[Bool.false_and] at hO;rw[hO,if_neg (by simp)] at hG;subst hO hG;simp[h2,hzl,w1,hI];refine Ac k1' [] [] (by simp[h1]) ?_;simp[Ap];exact⟨[],by simp⟩
 | true =>
 rw[if_pos rfl] at k1';simp only[Bool.true_and] at hO;have hi2:C9 b an1 b.2.2.1.length=Cs a b:=by unfold Cs;rw[hq1]
 have p2:=G5 (x:=b) hob p1.1.an (by rw[hfb];exact p1.1.ok) (i:=b.2.2.1.length) (Nat.le_refl _);rw[hi2] at p2;have hmA:Al (Ap ((I,[],[],[]):AK) an1)=true:=CS hm0 (by simp) p1.1.an (by rw[hfm];exact p1.1.ok);have hfmA:Aa (Ap ((I,[],[],[]):AK) an1)=Aa a:=hfm;have i2:Jr (Aa (Ap ((I,[],[],[]):AK) an1)) (Aa b) (BB (Aa b),(Ap ((I,[],[],[]):AK) an1).2.2.1,true):=⟨fun _=>CO,Nat.le_of_eq CO,HB (by rw[hfmA,hfb];omega),p1.1.an,by rw[hfmA];exact p1.1.ok⟩;have k2:=JK (Ap ((I,[],[],[]):AK) an1) b hmA hob (hfb.trans hfmA.symm) i2;have e2':Oy (Ap ((I,[],[],[]):AK) an1) b=Cs a b:=by rw[←hi2];unfold Oy C9;rw[hfmA,←hfb];rfl
 have eR2:HH (Ap ((I,[],[],[]):AK) an1) b=if (Cs a b).2.2=true then Bm b (Cs a b).1 else []:=by unfold HH;rw[e2']
 rw[e2',eR2] at k2;have hMr:DC a b=Bd (Aa a) (Bm a tA) (Bm b (Cs a b).1) (Cs a b).2.1 (Ay a).length:=by unfold DC;rw[hq1]
 obtain⟨⟨tB,an0,okB⟩,hq2⟩:∃ q,Cs a b=q:=⟨_,rfl⟩;rw[hq2] at k2 p2 hO hMr;simp only at k2 p2 hO hMr
 cases okB with
 | false =>
   simp only[Bool.false_and] at hO;rw[hO,if_neg (by simp)] at hG;subst hO hG;simp[h2,hzl,w1,hI];refine Ac k1' [] [] (by simp[h1]) ?_;simp[Ap];refine Ac k2 [] [] (by simp[Ap]) ?_;simp[Ap];exact⟨[],by simp⟩
 | true =>
 rw[if_pos rfl] at k2;simp only[Bool.true_and] at hO;have hra:(Bm a tA).length=(Ay a).length:=by simp[Bm]
 have hrb:(Bm b tB).length=(Ay a).length:=by simp[Bm,hrl]
 have h300:an0.length≤300:=p2.1.an;have hmB:Al (Ap ((I,[],[],[]):AK) an0)=true:=CS hm0 (by simp) p2.1.an (by rw[hfm,←hfb];exact p2.1.ok);have hpA:=p1.1.pl;have hpB:=p2.1.pl;rw[hfb] at hpB;have hle:=p2.2;simp only at hpA hpB hle
 have hrA:∀ k:Int,k∈Bm a tA→0≤k∧k<2*((Aa a:Int)+an0.length):=fun k hk=>by
  obtain⟨l,-,rfl⟩:=ABc.1 hk;have hq:Jw ((Aa a:Int)+an0.length) tA:=Hi hpA (by omega);exact Bn (BH hq (by omega) _) (by omega)
 have hrB:∀ k:Int,k∈Bm b tB→0≤k∧k<2*((Aa a:Int)+an0.length):=fun k hk=>by
  obtain⟨l,-,rfl⟩:=ABc.1 hk;exact Bn (BH hpB (by omega) _) (by omega)
 have hnr0:=FR (x:=a) (k:=a.2.1.length) (M:=4) (fun s hs=>DE ((AA hoa).2.1 s hs));rw[FU] at hnr0;simp[h2,hzl,w1,hI];refine Ac k1' [] [] (by simp[h1]) ?_;simp[Ap];refine Ac k2 [] [] (by simp[Ap]) ?_;generalize Bm a tA=ra at *;generalize Bm b tB=rb at *;generalize DC a b=MR at *;have hrl16:=hra;generalize (Ay a).length=nr at *;have hnr:nr≤64:=by omega
 simp[Ap];refine AB [false,false,false,false,true,false,false,true,true,false,true,true,true] (fun q:Nat×Int×List Ai=>q.1≤nr∧Bd (Aa a) ra rb an0 q.1=(q.2.1,q.2.2,true)∧Al (Ap ((I,[],[],[]):AK) q.2.2)=true) (fun q:Nat×Int×List Ai=>[(11,.d (.int .i64 q.2.1)),(12,.d (.int .i64 q.1))]) (fun q:Nat×Int×List Ai=>[(3,.var 28 [.d (.int .i64 I),.d (.sl 57 []),.d (.sl 63 (q.2.2.map At)),.d (.sl 3 [])])]) (fun q:Nat×Int×List Ai=>nr - q.1) (0,0,an0) ?_ ?_ ?_
 · exact⟨Nat.zero_le _,rfl,hmB⟩
 · exact⟨[0,1,2,3],by simp⟩
 rintro J S μ hJ hS hμ ⟨i,sv,an⟩ ⟨hi,hst,hmO⟩;simp only at hi hst hmO;have hgf:=EF (fa:=Aa a) (ra:=ra) (rb:=rb) (an0:=an0) (by omega) h300 hrA hrB (by omega) (by omega) i hi;rw[hst] at hgf;obtain⟨g1,g2,g3⟩:=hgf rfl;simp only at g1 g2 g3;by_cases hlt:i<nr
 case neg =>
  obtain rfl:i=nr:=by omega
  rw[hst] at hMr;subst hMr;simp only at hO;rw[hO,if_pos rfl] at hG;subst hO hG;simp[hra,hlt,zz3 hlt];exact⟨[],by simp⟩
 have hx1:ra[i]? = some (ra.getD i 0):=by rw[List.getD_eq_getElem?_getD,zz0 (by omega)];rfl
 have hx2:rb[i]? = some (rb.getD i 0):=by rw[List.getD_eq_getElem?_getD,zz0 (by omega)];rfl
 have b1:=hrA _ (zz6 hx1);have b2:=hrB _ (zz6 hx2);have hstp:=Fv hst;generalize ra.getD i 0=xa at *;generalize rb.getD i 0=xb at *;have w6:IntKind.i64.wrap ((i:Int)+1)=(i:Int)+1:=Ad (by omega) (by omega);have hgN:(A0 (Ap ((I,[],[],[]):AK) an):Int)=Aa a+an.length:=by rw[Cq,hfm];omega
 have kx:=Vf (Ap ((I,[],[],[]):AK) an) xa xb hmO (by omega) (by omega);have eX:=Wo (x:=Ap ((I,[],[],[]):AK) an) (a:=xa) (b:=xb) g3 (by omega) (by omega);have hmX:=NQ (x:=Ap ((I,[],[],[]):AK) an) (a:=xa) (b:=xb) hmO;have xr:=HJ (fa:=Aa a) (an:=an) (a:=xa) (b:=xb) (by omega) g3 (by omega) (by omega);have eF:Cv (Aa (Ap ((I,[],[],[]):AK) an)) (Ap ((I,[],[],[]):AK) an).2.2.1 xa xb=Cv (Aa a) an xa xb:=by rw[show Aa (Ap ((I,[],[],[]):AK) an)=Aa a from hfm];rfl
 rw[eF] at eX;obtain⟨⟨xv,an1'⟩,hX⟩:∃ q,Cv (Aa a) an xa xb=q:=⟨_,rfl⟩;rw[hX] at eX xr hstp;obtain⟨x1,x2,x3,x4⟩:=xr;simp only at x1 x2 x3 x4 hstp eX
 have hfail:Bd (Aa a) ra rb an0 (i+1)=(0,[],false)→O=false∧G=(0,[],[],[]):=fun h=>by
  have hff:=Bq (show (Bd (Aa a) ra rb an0 (i+1)).2.2=false by rw[h]) (nr - (i+1));rw[show i+1+(nr - (i+1))=nr by omega,←hMr] at hff;rw[hff] at hO;rw[hO,if_neg (by simp)] at hG;exact⟨hO,hG⟩
 by_cases hv:xv<0
 · rw[if_pos hv] at eX hstp;rw[eX] at kx hmX;have ko:=IA (Ap ((I,[],[],[]):AK) an) sv (-1) hmO (by omega) (by omega);rw[QB (Or.inr (by omega))] at ko;obtain⟨rfl,rfl⟩:=hfail hstp;simp[hra,hlt,zz2 hlt];refine Av [(14,[12]),(15,[])] (by kernel_rfl) ?_;simp[hx1,hx2,Ao,Ap];refine Ab (kx) ?_;simp[Ao,Ap];refine Ab (ko) ?_;simp[Ao,Ap];exact⟨[],by simp⟩
 rw[if_neg hv] at eX hstp;rw[eX] at kx hmX;simp only at kx hmX;have ko:=IA (Ap (Ap ((I,[],[],[]):AK) an) an1') sv xv hmX (by omega) (by omega);have hgN2:(A0 (Ap (Ap ((I,[],[],[]):AK) an) an1'):Int)=Aa a+an1'.length:=by rw[Cq,show Aa (Ap ((I,[],[],[]):AK) an)=Aa a from hfm];omega
 have eO:=OJ (x:=Ap (Ap ((I,[],[],[]):AK) an) an1') (a:=sv) (b:=xv) (by omega) (by omega);rw[show Aa (Ap (Ap ((I,[],[],[]):AK) an) an1')=Aa a from hfm,show (Ap (Ap ((I,[],[],[]):AK) an) an1').2.2.1=an1' from rfl] at eO;have hmO2:=(Ls (x:=Ap (Ap ((I,[],[],[]):AK) an) an1') (a:=sv) (b:=xv) hmX).2.2;generalize F7 (Aa a) an1' sv xv=ov at *;generalize Ar an1' (Af sv) (Af xv)=an2 at *;by_cases hv2:ov<0
 · rw[if_pos hv2] at eO hstp;rw[eO] at ko;obtain⟨rfl,rfl⟩:=hfail hstp;simp[hra,hlt,zz2 hlt];refine Av [(14,[12]),(15,[])] (by kernel_rfl) ?_;simp[hx1,hx2,Ao,Ap];refine Ab (kx) ?_;simp[Ao,Ap];refine Ab (ko) ?_;simp[Ao,Ap];exact⟨[],by simp⟩
 rw[if_neg hv2] at eO hstp;rw[eO] at ko hmO2;simp only at ko hmO2;simp[hra,hlt,zz2 hlt];refine Av [(14,[12]),(15,[])] (by kernel_rfl) ?_;simp[hx1,hx2,Ao,Ap];refine Ab (kx) ?_;simp[Ao,Ap];refine Ab (ko) ?_;simp[Ao,Ap,w6,hv2,zz3 hv2,show 0≤ov by omega];exact Ae hJ hS hμ (i+1,ov,an2) ⟨by omega,hstp,hmO2⟩ (by simp only;omega) ⟨[0,1,2,3],by simp⟩
end Go.Proofs.YtnjedabjbeipeaaGreat
