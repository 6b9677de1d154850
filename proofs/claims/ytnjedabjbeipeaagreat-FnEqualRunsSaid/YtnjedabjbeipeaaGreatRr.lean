/-
  Imports of a net into another, and the net that compares two nets, by abstract walks: the reference. Nets come back as data.
  Conditions: those typed in each theorem.
-/
import Derived.Test.YtnjedabjbeipeaaGreatRn
namespace Go.Proofs.YtnjedabjbeipeaaGreat
open Go.RowKit Go.ChangeShapes Go.WideShapes
set_option linter.unusedSimpArgs false
set_option linter.unusedVariables false
set_option maxRecDepth 100000
set_option maxHeartbeats 10000000
theorem XD {xs:List Ai}:AR (xs.map At):=by
 intro c hc d hd;obtain⟨x,_,rfl⟩:=CE.1 hc;simp only[At,e2,List.mem_cons,List.not_mem_nil,or_false] at hd;rcases hd with rfl|rfl<;>rfl
theorem OQ {xs:List Int}:AR (xs.map (e1 AC)):=by
 intro c hc d hd;obtain⟨x,_,rfl⟩:=CE.1 hc;simp[e1] at hd;subst hd;rfl
theorem JV (sq:List Cx) (h1:sq.length≤1048576) (h2:∀ s∈sq,s.2.2.length≤1048576):BA Tryz.prog 79 [.d (Dr 57 AY sq)] (.d (Dr 57 AY sq)):=by
 refine B7 (by kernel_rfl) Tryz.func79 rfl rfl rfl ?_;simp;refine AB [true,false,false,true,true] (fun i:Nat=>i≤sq.length) (fun i:Nat=>[(4,.d (.int .i64 i))]) (fun i:Nat=>[(0,.arr 57 true ((sq.take i).map AY))]) (fun i:Nat=>sq.length - i) 0 ?_ ?_ ?_
 · simp
 · exact⟨[0],by simp⟩
 rintro I S μ hI hS hμ i hi;by_cases hlt:i<sq.length
 · have hx1:sq[i]? = some sq[i]:=A1 hlt;have hnx:=Bb hx1;have hf:=h2 _ (Dv hlt);have w2:IntKind.i64.wrap ((i:Int)+1)=(i:Int)+1:=Ad (by omega) (by omega);have hll:(sq.take i).length=i:=by simp;omega
   generalize sq[i]=s at *;generalize sq.take i=ms at *;have hL:(AY s).length=3:=rfl;simp[A8 hlt];refine Av [(17,[0,1,2,3,4,5,6,7,8,9,10]),(18,[0]),(19,[0]),(20,[]),(21,[])] (by kernel_rfl) ?_;simp[hx1,hL,AY];refine Ak As rfl (by simp) rfl (by simp) (fun c hc=>by obtain⟨b,_,rfl⟩:=CE.1 hc;rfl) (by simp;omega) (fun _=>OQ) ?_;simp
   first | refine Bu (q:=1) B4 (by exact rfl) (by simp) (by exact rfl) (by exact rfl) (by simp) (by simp) (by first | (simp;done)|(simp;omega)) ?_|refine Bt B4 (by exact rfl) (by simp) (by exact rfl) (by simp) (by first | (simp;done)|(simp;omega)) ?_
   simp[w2];exact Ae hI hS hμ (i+1) (by omega) (by omega) ⟨[4],by simp[hnx,AY,e1,e3,AC]⟩
 · obtain rfl:i=sq.length:=by omega
   rw[List.take_length];simp[hlt,BH hlt]
theorem FV (x:AK) (hx:CF 1048576 x):BA Tryz.prog 31 [GD x] (GD x):=by
 obtain⟨f1,f2,f3,f4⟩:=hx;refine B7 (by kernel_rfl) Tryz.func31 rfl rfl rfl ?_;simp[Ao];refine Av [(8,[0,1,9,10,11]),(12,[0,1]),(13,[]),(14,[])] (by kernel_rfl) ?_;simp[Ao];refine Ab (JV x.2.1 f1 f2) ?_;simp[Ao];refine Ak En rfl (by simp) rfl (by simp) (fun c hc=>by obtain⟨b,_,rfl⟩:=CE.1 hc;rfl) (by simp;omega) (fun _=>XD) ?_;simp;refine Ak As rfl (by simp) rfl (by simp) (fun c hc=>by obtain⟨b,_,rfl⟩:=CE.1 hc;rfl) (by simp;omega) (fun _=>OQ) ?_;simp[Ao]
theorem Fb (pl ls:List Int) (hp:pl.length≤1048576) (hn:ls.length≤1048576) (hl:fT pl.length ls):BA Tryz.prog 73 [ints pl,ints ls] (ints (ls.map (Aq pl))):=by
 refine A6 (by kernel_rfl) Tryz.func73 rfl rfl rfl ?_;simp;refine AB [true,true,false,false,false,true,true] (fun i:Nat=>i≤ls.length) (fun i:Nat=>[(6,.d (.int .i64 i))]) (fun i:Nat=>[(0,.arr 3 true (((ls.take i).map (Aq pl)).map (e1 AC)))]) (fun i:Nat=>ls.length - i) 0 ?_ ?_ ?_
 · simp
 · exact⟨[0],by simp⟩
 rintro I S μ hI hS hμ i hi;by_cases hlt:i<ls.length
 · have hx1:ls[i]? = some ls[i]:=A1 hlt;have hli:=hl _ (Dv hlt);have hnx:(ls.take (i+1)).map (Aq pl)=(ls.take i).map (Aq pl)++[Aq pl ls[i]]:=by rw[Bb hx1,Gh];rfl
   have hll:((ls.take i).map (Aq pl)).length=i:=by simp;omega
   have w2:IntKind.i64.wrap ((i:Int)+1)=(i:Int)+1:=Ad (by omega) (by omega);have w1:IntKind.i64.wrap ((ls[i]).tdiv 2)=ls[i] / 2:=by rw[Int.tdiv_eq_ediv_of_nonneg hli.1,Ad (by omega) (by omega)]
   have hat:=Cc (lv:=pl) (k:=ls[i] / 2) (by omega);have w3:=CD ls[i];have hm:Bm (A3 pl (ls[i] / 2)) (ls[i] % 2)=Aq pl ls[i]:=rfl;have hn:¬ ls[i] / 2<0:=by omega
   generalize Aq pl ls[i]=r at *;generalize A3 pl (ls[i] / 2)=v at *;generalize ls[i]=l at *;generalize l / 2=h at *;generalize (ls.take i).map (Aq pl)=ms at *;simp[A8 hlt,hx1,w1,hat,w3,hm,hn];refine⟨by kernel_rfl,?_⟩;refine Ak As rfl (by simp) rfl (by simp) (by simp) (by first | (simp;done)|(simp;omega)) (by simp[AR,AL]) ?_;simp[w2];exact Ae hI hS hμ (i+1) (by omega) (by omega) ⟨[2],by simp only;rw[hnx];simp[e1,AC]⟩
 · obtain rfl:i=ls.length:=by omega
   rw[List.take_length];simp[hlt,BH hlt]
theorem JL (v:Int) (h:-1≤v∧v≤1048576):BA Tryz.prog 82 [.d (.int .i64 v)] (.d (.int .i64 (Dd v))):=by
 unfold Dd;refine A6 (by kernel_rfl) Tryz.func82 rfl rfl rfl ?_;by_cases hv:v<0
 · simp[hv,A8 hv,show ¬ 0≤v by omega]
 · have hx:Bm v 1=Af v:=Bq (by omega) (by omega);simp[hv,BH hv,hx,show 0≤v by omega]
theorem mW {a b:Int} (ha:0≤a) (hb:0≤b):a=Af b↔Af a=b:=by
 constructor
 · intro h;rw[h];exact SF hb
 · intro h;rw[←h];exact (SF ha).symm
theorem DW (x:AK) (a b:Int) (hok:Al x=true) (hA:-2≤a∧a≤1048576) (hB:-2≤b∧b≤1048576):BA Tryz.prog 75 [GD x,.d (.int .i64 a),.d (.int .i64 b)] (.tup [GD (Dj x a b).1,.d (.int .i64 (Dj x a b).2)]):=by
 obtain⟨⟨n1,n2,n3,n4,n5,n6⟩,-,-,-⟩:=AA hok;obtain⟨hF,hgl,hNi,hno⟩:=A9 hok;have hN:=Br x;have hx:=B3 hok;have hg:=CT hok;have kok:=Cr x hx hg;rw[hok] at kok;have kn:=Bw x;rw[hno] at kn;have kc:=FV x hx;have kA:=H7 a (A0 x) (by unfold J0;omega) (by omega);have kB:=H7 b (A0 x) (by unfold J0;omega) (by omega);have hS:Dj x a b=if DX a 0 (2*(A0 x:Int) - 1)=true∧DX b 0 (2*(A0 x:Int) - 1)=true then (Ap x (Ar x.2.2.1 a b),AZ (Aa x) x.2.2.1 a b) else (x,-1):=rfl;generalize Dj x a b=R at *;refine B7 (by kernel_rfl) Tryz.func75 rfl rfl rfl ?_;simp[Ao];refine Ab (kc) ?_;simp[Ao];refine Ab (kn) ?_;simp[Ao];refine Ab (kok) ?_;simp[Ao];refine Ab (kA) ?_;simp
 cases hra:DX a 0 (2*(A0 x:Int) - 1) with
 | false =>
   rw[if_neg (by simp[hra])] at hS;subst hS;simp[hra,Ao]
 | true =>
 simp[hra];refine Ab (kB) ?_;simp
 cases hrb:DX b 0 (2*(A0 x:Int) - 1) with
 | false =>
   rw[if_neg (by simp[hrb])] at hS;subst hS;simp[hrb,Ao]
 | true =>
 rw[if_pos ⟨hra,hrb⟩] at hS;have ha:=AP.1 hra;have hb:=AP.1 hrb;have hV:AZ (Aa x) x.2.2.1 a b=if ED a b=true then Fu a b else if EN x.2.2.1 (Ie a b,Hb a b)<x.2.2.1.length then 2*(Aa x+EN x.2.2.1 (Ie a b,Hb a b)) else if x.2.2.1.length<300 then 2*(Aa x+x.2.2.1.length) else -1:=rfl;have hM:Ba x.2.2.1 a b=(!ED a b&&decide (¬ EN x.2.2.1 (Ie a b,Hb a b)<x.2.2.1.length)&&decide (x.2.2.1.length<300)):=rfl;have hNN:Ar x.2.2.1 a b=if Ba x.2.2.1 a b=true then x.2.2.1++[(Ie a b,Hb a b)] else x.2.2.1:=rfl;have hx1:(if b<a then b else a)=Ie a b:=rfl;have hx2:(if a<b then b else a)=Hb a b:=rfl;have hT:ED a b=(decide (a=0)||decide (b=0)||decide (Bm a 1=b)||decide (a=1)||decide (a=b)||decide (b=1)):=rfl;have hTv:Fu a b=if a=0∨b=0∨Bm a 1=b then 0 else if a=1∨a=b then b else a:=rfl;rw[Bq ha.1 (by omega)] at hT hTv;have hxb:Bm b 1=Af b:=Bq hb.1 (by omega);have hfl:=mW ha.1 hb.1;have hW:Ap x x.2.2.1=x:=rfl;generalize Ie a b=mn at *;generalize Hb a b=mx at *;generalize AZ (Aa x) x.2.2.1 a b=av at *;obtain⟨fb,hfb⟩:∃ fb,Af b=fb:=⟨_,rfl⟩;rw[hfb] at hxb hfl;generalize Af a=fa at *;by_cases hTT:ED a b=true
 · have hm0:Ba x.2.2.1 a b=false:=by rw[hM,hTT];rfl
   rw[if_pos hTT] at hV;rw[hNN,if_neg (by simp[hm0]),hW] at hS;subst hV hS;by_cases h0:a=0
   · have hR:Fu a b=0:=by rw[hTv,if_pos (.inl h0)]
     simp[hrb,eq_true h0,show (a==0)=true by simpa using h0,hR,Ao]
   have q0:(a==0)=false:=by simpa using h0
   by_cases h1:b=0
   · have hR:Fu a b=0:=by rw[hTv,if_pos (.inr (.inl h1))]
     simp[hrb,h0,q0,eq_true h1,show (b==0)=true by simpa using h1,hR,Ao]
   have q1:(b==0)=false:=by simpa using h1
   by_cases h2:fa=b
   · have hR:Fu a b=0:=by rw[hTv,if_pos (.inr (.inr h2))]
     simp[hrb,h0,q0,h1,q1,hxb,eq_true (hfl.2 h2),show (a==fb)=true by simpa using hfl.2 h2,hR,Ao]
   have h2':¬ a=fb:=fun e=>h2 (hfl.1 e);have q2:(a==fb)=false:=by simpa using h2'
   by_cases h3:a=1
   · have hR:Fu a b=b:=by rw[hTv,if_neg (by omega),if_pos (.inl h3)]
     simp[hrb,h0,q0,h1,q1,hxb,h2',q2,eq_true h3,show (a==1)=true by simpa using h3,hR,Ao]
   have q3:(a==1)=false:=by simpa using h3
   by_cases h4:a=b
   · have hR:Fu a b=b:=by rw[hTv,if_neg (by omega),if_pos (.inr h4)]
     simp[hrb,h0,q0,h1,q1,hxb,h2',q2,h3,q3,eq_true h4,show (a==b)=true by simpa using h4,hR,Ao]
   have q4:(a==b)=false:=by simpa using h4
   have h5:b=1:=by rw[hT] at hTT;simpa [h0,h1,h2,h3,h4] using hTT
   have hR:Fu a b=a:=by rw[hTv,if_neg (by omega),if_neg (by omega)]
   simp[hrb,h0,q0,h1,q1,hxb,h2',q2,h3,q3,h4,q4,eq_true h5,show (b==1)=true by simpa using h5,hR,Ao]
 have hTf:ED a b=false:=by simpa using hTT
 rw[hTf] at hM hV;rw[if_neg (by simp)] at hV;simp only[Bool.not_false,Bool.true_and] at hM;rw[hT] at hTf;simp only[Bool.or_eq_false_iff,decide_eq_false_iff_not] at hTf;obtain⟨⟨⟨⟨⟨h0,h1⟩,h2⟩,h3⟩,h4⟩,h5⟩:=hTf;have h2':¬ a=fb:=fun e=>h2 (hfl.1 e);have q0:(a==0)=false:=by simpa using h0
 have q1:(b==0)=false:=by simpa using h1
 have q2:(a==fb)=false:=by simpa using h2'
 have q3:(a==1)=false:=by simpa using h3
 have q4:(a==b)=false:=by simpa using h4
 have q5:(b==1)=false:=by simpa using h5
 simp[hrb,q0,q1,q2,q3,q4,q5,h0,h1,hxb,h2',h3,h4,h5,hx1,hx2];refine AB [false,false,false,true,false,false,true,false,true,true,true,true] (fun i:Nat=>i≤x.2.2.1.length∧∀ j:Nat,j<i→x.2.2.1[j]?≠some (mn,mx)) (fun i:Nat=>[(11,.d (.int .i64 i))]) (fun i:Nat=>[]) (fun i:Nat=>x.2.2.1.length - i) 0 ?_ ?_ ?_
 · exact⟨Nat.zero_le _,fun j h=>by omega⟩
 · exact⟨[0,1,2,3,4,5,6],by simp⟩
 rintro J S μ hJ hS' hμ i ⟨hi,hpre⟩;by_cases hlt:i<x.2.2.1.length
 · have hy:x.2.2.1[i]? = some x.2.2.1[i]:=A1 hlt;have w1:IntKind.i64.wrap ((i:Int)+1)=(i:Int)+1:=Ad (by omega) (by omega);generalize x.2.2.1[i]=y at *;have hL:(At y).length=2:=rfl;by_cases he:y=(mn,mx)
   · subst he;have hf:EN x.2.2.1 (mn,mx)=i:=Yb hy hpre;rw[hf,if_pos hlt] at hV;rw[hf,BH (by simpa using hlt)] at hM;rw[hNN,if_neg (by simp[hM]),hW,hV] at hS;subst hS;have w2:IntKind.i64.wrap (1+x.1+(x.2.1.length:Int)+(i:Int))=(Aa x:Int)+i:=by rw[Ad (by omega) (by omega)];omega
     have w3:IntKind.i64.wrap (2*((Aa x:Int)+(i:Int)))=2*((Aa x:Int)+i):=Ad (by omega) (by omega);simp[A8 hlt];refine AH 7 (by kernel_rfl) ?_;simp[hy,hL,At];refine Av [(6,[3,4,5]),(7,[])] (by kernel_rfl) ?_;simp[Ao];refine Ab (BJ x ⟨n1,n2⟩ n3) ?_;simp[Ao,w2,w3]
   · have he2:(y.1==mn&&y.2==mx)=false:=by
      cases hc:(y.1==mn&&y.2==mx) with
      | false=>rfl
      | true=>simp only[Bool.and_eq_true,beq_iff_eq] at hc;exact absurd (Prod.ext hc.1 hc.2) he
     simp[A8 hlt];refine AH 7 (by kernel_rfl) ?_;simp[hy,hL,At,he2,w1]
     exact Ae hJ hS' hμ (i+1) ⟨by omega,fun j hj=>by
      by_cases hji:j=i
      · subst hji;rw[hy];exact fun e=>he (Da e)
      · exact hpre j (by omega)⟩ (by omega) ⟨[0,1,2,3,4,5,6],by simp⟩
 obtain rfl:i=x.2.2.1.length:=by omega
 have hf:¬ EN x.2.2.1 (mn,mx)<x.2.2.1.length:=by rw[Rx hpre];omega
 rw[if_neg hf] at hV;by_cases h6:x.2.2.1.length=300
 · rw[if_neg (by omega)] at hV;rw[A8 hf,BH (by omega)] at hM;rw[hNN,if_neg (by simp[hM]),hW,hV] at hS;subst hS;simp[BH hlt,hlt,show ((x.2.2.1.length:Int)==300)=true by simpa using (by omega:(x.2.2.1.length:Int)=300),show ((x.2.2.1.length:Int)=300) by omega,Ao]
 · rw[if_pos (by omega)] at hV;rw[A8 hf,A8 (show x.2.2.1.length<300 by omega)] at hM;rw[hNN,if_pos (by simpa using hM),hV] at hS;subst hS;have w3:IntKind.i64.wrap (2*(A0 x:Int))=2*((Aa x:Int)+x.2.2.1.length):=by rw[Ad (by omega) (by omega)];omega
   simp[BH hlt,hlt,show ((x.2.2.1.length:Int)==300)=false by simpa using (by omega:¬ (x.2.2.1.length:Int)=300),show ¬ ((x.2.2.1.length:Int)=300) by omega];refine Ak En rfl (by simp) rfl (by simp) (by simp) (by first | (simp;done)|(simp;omega)) (by simp[AR,AL]) ?_;simp[w3,Ao,Ap,At,e2,AC]
theorem FX {x:AK} {a b:Int} (hok:Al x=true):-1≤(Dj x a b).2∧(Dj x a b).2≤1000∧Al (Dj x a b).1=true:=by
 obtain⟨⟨n1,n2,n3,n4,n5,n6⟩,-,-,-⟩:=AA hok;obtain⟨hF,hgl,hNi,hno⟩:=A9 hok;have hN:=Br x;unfold Dj;split
 · rename_i h;have ha:=AP.1 h.1;have hb:=AP.1 h.2;have hr:=BR (fa:=Aa x) (an:=x.2.2.1) (a:=a) (b:=b) (by omega) (by omega) (by omega);have h3:=Bv (a:=a) (b:=b) n4;exact⟨hr.1,by simp only;omega,XN hok (by omega) (by omega)⟩
 · exact⟨by simp,by simp,hok⟩
theorem L9 {v:Int} (h:-1≤v∧v≤1000000):-2≤Dd v∧Dd v≤1048576:=by
 unfold Dd Af;split
 · omega
 · split<;>omega
theorem JI (x:AK) (a b:Int) (hok:Al x=true) (hA:-1≤a∧a≤1000000) (hB:-1≤b∧b≤1000000):BA Tryz.prog 39 [GD x,.d (.int .i64 a),.d (.int .i64 b)] (.tup [GD (J9 x a b).1,.d (.int .i64 (J9 x a b).2)]):=by
 have kA:=JL a (by omega);have kB:=JL b (by omega);have k:=DW x (Dd a) (Dd b) hok (L9 hA) (L9 hB);obtain⟨s1,s2,s3⟩:=FX (x:=x) (a:=Dd a) (b:=Dd b) hok;have hx:=B3 hok;have hS:J9 x a b=if (Dj x (Dd a) (Dd b)).2<0 then (x,-1) else ((Dj x (Dd a) (Dd b)).1,Af (Dj x (Dd a) (Dd b)).2):=rfl;generalize J9 x a b=R at *;generalize Dj x (Dd a) (Dd b)=q at *;refine B7 (by kernel_rfl) Tryz.func39 rfl rfl rfl ?_;simp[Ao];refine Av [(10,[8]),(11,[])] (by kernel_rfl) ?_;simp[Ao];refine Ab (kA) ?_;simp;refine Ab (kB) ?_;simp;refine Ab (k) ?_;simp[Ao];by_cases hq:q.2<0
 · rw[if_pos hq] at hS;subst hS;simp[hq,A8 hq,show ¬ 0≤q.2 by omega];refine Ab (FV x hx) ?_;simp[Ao]
 · have hz:Bm q.2 1=Af q.2:=Bq (by omega) (by omega);rw[if_neg hq] at hS;subst hS;simp[hq,BH hq,show 0≤q.2 by omega,hz,Ao]
theorem LU {x:AK} {a b:Int} (hok:Al x=true):-1≤(J9 x a b).2∧(J9 x a b).2≤1001∧Al (J9 x a b).1=true:=by
 obtain⟨s1,s2,s3⟩:=FX (x:=x) (a:=Dd a) (b:=Dd b) hok;unfold J9;split
 · exact⟨by simp,by simp,hok⟩
 · have:=Bd (v:=(Dj x (Dd a) (Dd b)).2) (by omega);exact⟨by simp only;omega,by simp only;omega,s3⟩
theorem dK (x m:AK) (p q:Int) (hx:Al x=true) (hm:Al m=true) (hp:-1≤p∧p≤1000000) (hq:-1≤q∧q≤1000000):BA Tryz.prog 83 [GD x,GD m,.d (.int .i64 p),.d (.int .i64 q)] (.tup [GD (JH x m p q).1,.d (.int .i64 (JH x m p q).2)]):=by
 have k:=JI m p q hm hp hq;have hf:=B3 hx;have hS:JH x m p q=if (J9 m p q).2<0 then (x,-1) else J9 m p q:=rfl;generalize JH x m p q=R at *;generalize J9 m p q=r at *;refine A6 (by kernel_rfl) Tryz.func83 rfl rfl rfl ?_;simp[Ao];refine Ab (k) ?_;simp[Ao];by_cases hr:r.2<0
 · rw[if_pos hr] at hS;subst hS;simp[hr,A8 hr,show ¬ 0≤r.2 by omega];refine Ab (FV x hf) ?_;simp[Ao]
 · rw[if_neg hr] at hS;subst hS;simp[hr,BH hr,show 0≤R.2 by omega,Ao]
theorem U6 (x:AK) (a b:Int) (hok:Al x=true) (hA:-1≤a∧a≤1000000) (hB:-1≤b∧b≤1000000):BA Tryz.prog 38 [GD x,.d (.int .i64 a),.d (.int .i64 b)] (.tup [GD (OL x a b).1,.d (.int .i64 (OL x a b).2)]):=by
 have kA:=JL a (by omega);have kB:=JL b (by omega);have rA:=L9 hA;have rB:=L9 hB;have k1:=DW x a (Dd b) hok (by omega) rB;obtain⟨p1,p2,p3⟩:=FX (x:=x) (a:=a) (b:=Dd b) hok;have hS:OL x a b=JH x (Dj (Dj x a (Dd b)).1 (Dd a) b).1 (Dj x a (Dd b)).2 (Dj (Dj x a (Dd b)).1 (Dd a) b).2:=rfl;generalize OL x a b=R at *;generalize Dj x a (Dd b)=q1 at *;have k2:=DW q1.1 (Dd a) b p3 rA (by omega);obtain⟨r1,r2,r3⟩:=FX (x:=q1.1) (a:=Dd a) (b:=b) p3;generalize Dj q1.1 (Dd a) b=q2 at *;have k3:=dK x q2.1 q1.2 q2.2 hok r3 (by omega) (by omega);subst hS;generalize JH x q2.1 q1.2 q2.2=R at *;refine B7 (by kernel_rfl) Tryz.func38 rfl rfl rfl ?_;simp[Ao];refine Av [(9,[7]),(10,[])] (by kernel_rfl) ?_;simp[Ao];refine Ab (kB) ?_;simp;refine Ab (k1) ?_;simp[Ao];refine Av [(8,[7]),(9,[])] (by kernel_rfl) ?_;simp[Ao];refine Ab (kA) ?_;simp;refine Ab (k2) ?_;simp[Ao];refine Ab (k3) ?_;simp[Ao]
abbrev TC (x:AK):V:=.agg [.d (.int .i64 x.1),.d (Dr 57 AY x.2.1),.d (Dr 63 At x.2.2.1),.d (Dr 3 (e1 AC) x.2.2.2)]
abbrev E2 (x:AK):Ah:=.var 28 [.d (.int .i64 x.1),.d (Dr 57 AY x.2.1),.d (Dr 63 At x.2.2.1),.d (Dr 3 (e1 AC) x.2.2.2)]
def eL (i:Nat) (m:AK) (to:List Int) (sl:List Ah):List Ah:=if i=0 then sl else (sl.set 0 .dead).set 1 (E2 m)++[.arr 3 true (to.map (e1 AC))]
def eN (i:Nat):V:=if i=0 then .ref 0 else .ref 4
theorem LL {x:AK} {fa skip inst:Int} {to0:List Int} {an0:List Ai} {i:Nat} (h:(B5 x fa skip inst to0 an0 i).2.2=false):∀ d,B5 x fa skip inst to0 an0 (i+d)=B5 x fa skip inst to0 an0 i
 | 0=>rfl
 | d+1=>by
   have ih:=LL h d;rw[←Nat.add_assoc,B5,if_pos (by rw[ih];exact h),ih]
theorem WR {x:AK} {fa skip inst:Int} {to0:List Int} {an0:List Ai}:∀ i,∃ r,(B5 x fa skip inst to0 an0 i).1=to0++r
 | 0=>⟨[],by simp[B5]⟩
 | i+1=>by
   obtain⟨r,hr⟩:=WR (x:=x) (fa:=fa) (skip:=skip) (inst:=inst) (to0:=to0) (an0:=an0) i;unfold B5;split
   · exact⟨r,hr⟩
   · split
     · exact⟨r++[inst],by simp[hr]⟩
     · split
       · exact⟨r,hr⟩
       · exact⟨r++[AZ fa (B5 x fa skip inst to0 an0 i).2.1 (Aq (B5 x fa skip inst to0 an0 i).1 (Aj x (Aa x+i)).1) (Aq (B5 x fa skip inst to0 an0 i).1 (Aj x (Aa x+i)).2)],by simp only[hr,FA]⟩
theorem Ur (m n:AK) (to0:List Int) (skip inst:Int) (c:Bool) (hm:Al m=true) (hn:Al n=true) (hI:JS (Aa m) (Aa n) (to0,m.2.2.1,true)) (hi:0≤inst∧inst<2*(Aa m:Int))
 (hc:c=decide ((B5 n (Aa m) skip inst to0 m.2.2.1 n.2.2.1.length).1.length≠to0.length)) :
 CM Tryz.prog 81 [TC m,.ref 0,TC n,.d (.int .i64 skip),.d (.int .i64 inst)] [.arr 3 true (to0.map (e1 AC))]
  (.tup [TC (Ap m (B5 n (Aa m) skip inst to0 m.2.2.1 n.2.2.1.length).2.1),.ref (if c=true then 1 else 0),.d (.bool (B5 n (Aa m) skip inst to0 m.2.2.1 n.2.2.1.length).2.2)])
  (if c=true then [.dead,.arr 3 true ((B5 n (Aa m) skip inst to0 m.2.2.1 n.2.2.1.length).1.map (e1 AC))] else [.arr 3 true (to0.map (e1 AC))]):=by
 obtain⟨⟨n1,n2,n3,n4,n5,n6⟩,-,-,-⟩:=AA hn;obtain⟨⟨m1,m2,m3,m4,m5,m6⟩,-,-,-⟩:=AA hm;obtain⟨hF,hgl,hNi,hno⟩:=A9 hn;obtain⟨hFm,hglm,hNim,hnom⟩:=A9 hm;have hN:=Br n;have hNm:=Br m;have hII:=fun i hi'=>Mc hn (fa:=Aa m) (skip:=skip) (inst:=inst) (by omega) hi hI i hi';generalize hR:B5 n (Aa m) skip inst to0 m.2.2.1 n.2.2.1.length=R at *;refine BE (by kernel_rfl) Tryz.func81 rfl rfl rfl (by cases c<;>simp[Bl,Later]) (by simp[BP,Ah.live]) ?_;simp;refine AJ [false,true,false,true,true,true,false,true,false,false,true,false,false,true] (fun i:Nat=>i≤n.2.2.1.length∧(B5 n (Aa m) skip inst to0 m.2.2.1 i).2.2=true) (fun i:Nat=>[(1,eN i),(13,.d (.int .i64 i))]) (fun i:Nat=>eL i (Ap m (B5 n (Aa m) skip inst to0 m.2.2.1 i).2.1) (B5 n (Aa m) skip inst to0 m.2.2.1 i).1) (fun i:Nat=>n.2.2.1.length - i) 0 ?_ ?_ ?_
 · exact⟨Nat.zero_le _,rfl⟩
 · exact⟨[0,1,2,3],by simp[eL,eN]⟩
 have hto0:to0.length=Aa n:=hI.len rfl;rintro I S μ hJ hS hμ i ⟨hile,hio⟩;obtain⟨q1,q2⟩:=hII i hile;obtain⟨⟨to,an,bb⟩,hst⟩:∃ s,B5 n (Aa m) skip inst to0 m.2.2.1 i=s:=⟨_,rfl⟩;rw[hst] at hio q1 q2;simp only at hio q2;subst hio;have hl:=q1.len rfl;have hpl:=q1.pl;have ha3:=q1.an;have han:=q1.ok;simp only at hl hpl ha3 han;have hokA:=CY hm q2 ha3 han;rw[hst];by_cases hlt:i<n.2.2.1.length
 case neg =>
  obtain rfl:i=n.2.2.1.length:=by omega
  rw[hst] at hR;subst hR;simp only at hc;by_cases hi0:n.2.2.1.length=0
  · obtain rfl:c=false:=by rw[hc];simp;omega
    rw[hi0] at hst;have e0:(to0,m.2.2.1,true)=(to,an,true):=hst;simp only[Prod.mk.injEq] at e0;obtain⟨rfl,rfl,-⟩:=e0;simp[eL,eN,hi0,Ap];exact⟨[0],by simp⟩
  · obtain rfl:c=true:=by rw[hc];simp;omega
    simp[eL,eN,hi0,Ap,BH hlt,hlt];exact⟨[0,4],by simp⟩
 obtain⟨hA,a1,a2,a3,a4,a5,a6⟩:=C3 hn (v:=Aa n+i) (by omega) (by omega);rw[Nat.add_sub_cancel_left] at hA
 have hstp:B5 n (Aa m) skip inst to0 m.2.2.1 (i+1)=if (i:Int)=skip then (to++[inst],an,true) else if AZ (Aa m) an (Aq to (Aj n (Aa n+i)).1) (Aq to (Aj n (Aa n+i)).2)<0 then (to,an,false) else (to++[AZ (Aa m) an (Aq to (Aj n (Aa n+i)).1) (Aq to (Aj n (Aa n+i)).2)],Ar an (Aq to (Aj n (Aa n+i)).1) (Aq to (Aj n (Aa n+i)).2),true):=by
  rw[B5,hst];simp only[Bool.true_eq_false,if_false]
 have kM:=Fb to [(Aj n (Aa n+i)).1,(Aj n (Aa n+i)).2] (by omega) (by simp) (fun l hl'=>by
  simp only[List.mem_cons,List.not_mem_nil,or_false] at hl'
  rcases hl' with rfl|rfl<;>omega)
 have r1:=Bp (l:=(Aj n (Aa n+i)).1) (BK hpl (by omega) ((Aj n (Aa n+i)).1 / 2)) (by omega);have r2:=Bp (l:=(Aj n (Aa n+i)).2) (BK hpl (by omega) ((Aj n (Aa n+i)).2 / 2)) (by omega);generalize Aj n (Aa n+i)=A at *;have hL:(At A).length=2:=rfl;simp only[List.map_cons,List.map_nil] at kM;generalize Aq to A.1=x1 at *;generalize Aq to A.2=x2 at *;have kD:=DW (Ap m an) x1 x2 hokA (by omega) (by omega);rw[Gu (by rw[Ct];omega) (by rw[Ct];omega)] at kD;have e1':Ap (Ap m an) (Ar (Ap m an).2.2.1 x1 x2)=Ap m (Ar an x1 x2):=rfl;have e2':AZ (Aa (Ap m an)) (Ap m an).2.2.1 x1 x2=AZ (Aa m) an x1 x2:=rfl;rw[e1',e2'] at kD;have w1:IntKind.i64.wrap ((i:Int)+1)=(i:Int)+1:=Ad (by omega) (by omega);generalize AZ (Aa m) an x1 x2=v at *;generalize Ar an x1 x2=an2 at *;by_cases hi0:i=0
 · subst hi0;have e0:(to0,m.2.2.1,true)=(to,an,true):=hst;simp only[Prod.mk.injEq] at e0;obtain⟨rfl,rfl,-⟩:=e0;by_cases hsk:((0:Nat):Int)=skip
   · rw[if_pos hsk] at hstp;subst hsk;simp[eL,eN,hlt,A8 hlt];refine Ak As rfl (by simp) rfl (by simp) (by simp) (by first | (simp;done)|(simp;omega)) (by simp[AR,AL]) ?_;simp[w1,show IntKind.i64.wrap 1=1 from rfl];exact Ae hJ hS hμ 1 ⟨by omega,by rw[show (1:Nat)=0+1 from rfl,hstp]⟩ (by omega) ⟨[0,1,2,3,5],by rw[show (1:Nat)=0+1 from rfl,hstp];simp[eL,eN,Ap,e1,AC]⟩
   rw[if_neg hsk] at hstp;simp[eL,eN,hlt,A8 hlt,show ¬ (0:Int)=skip by simpa using hsk,show ((0:Int)==skip)=false by simpa using hsk];refine AH 16 (by kernel_rfl) ?_;simp[hA,hL,At];refine Ab (kM) ?_;simp;refine Av [(12,[10]),(13,[])] (by kernel_rfl) ?_;simp;refine Ab (kD) ?_;simp[Ap,Ao];by_cases hv:v<0
   · rw[if_pos hv] at hstp;have hRR:=LL (show (B5 n (Aa m) skip inst to0 m.2.2.1 (0+1)).2.2=false by rw[hstp]) (n.2.2.1.length - 1);rw[show 0+1+(n.2.2.1.length - 1)=n.2.2.1.length by omega,hR,hstp] at hRR;subst hRR;obtain rfl:c=false:=by rw[hc];simp
     simp[hv,A8 hv,show ¬ 0≤v by omega,Ap];exact⟨[0],by simp⟩
   rw[if_neg hv] at hstp;simp[hv,BH hv,show 0≤v by omega];refine Ak As rfl (by simp) rfl (by simp) (by simp) (by first | (simp;done)|(simp;omega)) (by simp[AR,AL]) ?_;simp[w1,show IntKind.i64.wrap 1=1 from rfl];exact Ae hJ hS hμ 1 ⟨by omega,by rw[show (1:Nat)=0+1 from rfl,hstp]⟩ (by omega) ⟨[0,1,2,3,11],by rw[show (1:Nat)=0+1 from rfl,hstp];simp[eL,eN,Ap,e1,AC]⟩
 · by_cases hsk:(i:Int)=skip
   · rw[if_pos hsk] at hstp;subst hsk;simp[eL,eN,hi0,A8 hlt];refine Ak As rfl (by simp) rfl (by simp) (by simp) (by first | (simp;done)|(simp;omega)) (by simp[AR,AL]) ?_;simp[w1];exact Ae hJ hS hμ (i+1) ⟨by omega,by rw[hstp]⟩ (by omega) ⟨[0,1,2,3,6],by simp[hstp,eL,eN,Ap,e1,AC]⟩
   rw[if_neg hsk] at hstp;simp[eL,eN,hi0,A8 hlt,hsk,show ((i:Int)==skip)=false by simpa using hsk];refine AH 16 (by kernel_rfl) ?_;simp[hA,hL,At];refine Ab (kM) ?_;simp;refine Av [(12,[10]),(13,[])] (by kernel_rfl) ?_;simp;refine Ab (kD) ?_;simp[Ap,Ao];by_cases hv:v<0
   · rw[if_pos hv] at hstp;have hRR:=LL (show (B5 n (Aa m) skip inst to0 m.2.2.1 (i+1)).2.2=false by rw[hstp]) (n.2.2.1.length - (i+1));rw[show i+1+(n.2.2.1.length - (i+1))=n.2.2.1.length by omega,hR,hstp] at hRR;subst hRR;obtain rfl:c=true:=by rw[hc];simp;omega
     simp[hv,A8 hv,show ¬ 0≤v by omega,Ap];exact⟨[0,4],by simp⟩
   rw[if_neg hv] at hstp;simp[hv,BH hv,show 0≤v by omega];refine Ak As rfl (by simp) rfl (by simp) (by simp) (by first | (simp;done)|(simp;omega)) (by simp[AR,AL]) ?_;simp[w1];exact Ae hJ hS hμ (i+1) ⟨by omega,by rw[hstp]⟩ (by omega) ⟨[0,1,2,3,12],by simp[hstp,eL,eN,Ap,e1,AC]⟩
def OY (m n:AK):List Int×List Ai×Bool:=B5 n (Aa m) (-1) 0 (BD (Aa n)) m.2.2.1 n.2.2.1.length
def HP (m n:AK):List Int:=if (OY m n).2.2=true then Bo n (OY m n).1 else []
theorem Km (m n:AK) (hm:Al m=true) (hn:Al n=true) (hF0:Aa n=Aa m) (hm0:JS (Aa m) (Aa n) (BD (Aa n),m.2.2.1,true)) :
 CM Tryz.prog 37 [TC m,TC n] [] (.tup [TC (Ap m (OY m n).2.1),.d (Dr 3 (e1 AC) (HP m n)),.d (.bool (OY m n).2.2)]) []:=by
 obtain⟨⟨n1,n2,n3,n4,n5,n6⟩,-,-,-⟩:=AA hn;obtain⟨hF,hgl,hNi,hno⟩:=A9 hn;obtain⟨hFm,hglm,hNim,hnom⟩:=A9 hm;have hN:=Br n;have kI:=Ur m n (BD (Aa n)) (-1) 0 _ hm hn hm0 (by omega) rfl;have hB:OY m n=B5 n (Aa m) (-1) 0 (BD (Aa n)) m.2.2.1 n.2.2.1.length:=rfl;have hII:=Mc hn (fa:=Aa m) (skip:=-1) (inst:=0) (by omega) (by omega) hm0 n.2.2.1.length (Nat.le_refl _);have hRt:HP m n=if (OY m n).2.2=true then Bo n (OY m n).1 else []:=rfl;rw[←hB] at kI hII;have hroots:=JC n (B3 hn) n3;have hrlen:=Gr (x:=n) (k:=n.2.1.length) (M:=4) (fun s hs=>DP ((AA hn).2.1 s hs));rw[Gi] at hrlen;generalize HP m n=rt at *;obtain⟨⟨to,an,ok⟩,hq⟩:∃ q,OY m n=q:=⟨_,rfl⟩;rw[hq] at kI hII hRt;rw[hq];obtain⟨q1,-⟩:=hII;have hlen:=q1.len;simp only at kI hRt hlen
 have hmap:=fun h:ok=true=>Fb to (Ay n) (by have:=hlen h;omega) (by omega) (fun l hl=>by
  have:=Pu hn hl;have:=hlen h;unfold U7 at *
  omega)
 have hrM:(Ay n).map (Aq to)=Bo n to:=rfl;rw[hrM] at hmap;generalize hcd:decide (to.length≠(BD (Aa n)).length)=cc at kI;refine BE (by kernel_rfl) Tryz.func37 rfl rfl rfl (by simp[Bl,Later]) (by simp[BP,Ah.live]) ?_;simp;refine AB [false,false,true,true,true,false,false,true,true] (fun i:Nat=>i≤Aa n) (fun i:Nat=>[(8,.d (.int .i64 i))]) (fun i:Nat=>[(3,.arr 3 true ((BD i).map (e1 AC)))]) (fun i:Nat=>Aa n - i) 0 ?_ ?_ ?_
 · exact Nat.zero_le _
 · exact⟨[0,1,2,3],by simp[BD]⟩
 rintro I S μ hI hS hμ i hi;by_cases hlt:i<Aa n
 · have w1:IntKind.i64.wrap ((i:Int)+1)=(i:Int)+1:=Ad (by omega) (by omega);have w2:IntKind.i64.wrap (2*(i:Int))=2*(i:Int):=Ad (by omega) (by omega);have hll:=CV (n:=i);have hsn:=LQ (n:=i);generalize BD i=p at *;simp[Ao];refine Ab (BJ n ⟨n1,n2⟩ n3) ?_;simp[Ao,show (i:Int)<1+n.1+n.2.1.length by omega,w2];refine Ak As rfl (by simp) rfl (by simp) (by simp) (by first | (simp;done)|(simp;omega)) (by simp[AR,AL]) ?_;simp[w1];exact Ae hI hS hμ (i+1) (by omega) (by omega) ⟨[0,1,2,5],by simp[hsn,e1,AC]⟩
 obtain rfl:i=Aa n:=by omega
 simp[Ao];refine Ab (BJ n ⟨n1,n2⟩ n3) ?_;simp[Ao,show ¬ ((Aa n:Nat):Int)<1+n.1+n.2.1.length by omega]
 cases cc with
 | true =>
   simp only[if_true] at kI;refine Ac (kI) [] [3] (by simp) ?_;simp[Ap]
   cases ok with
   | false =>
     rw[if_neg (by simp)] at hRt;subst hRt;simp[Ap];exact⟨[],by simp[Ap]⟩
   | true =>
     rw[if_pos rfl] at hRt;subst hRt;have hmm:=hmap rfl;simp;refine Av [(5,[]),(6,[]),(7,[])] (by kernel_rfl) ?_;simp[Ao];refine Ab (hroots) ?_;simp[Ao];refine Ab (hmm) ?_;simp;exact⟨[],by simp[Ap]⟩
 | false =>
   simp only[Bool.false_eq_true,if_false] at kI;have htl:to.length=(BD (Aa n)).length:=by simpa using hcd
   obtain⟨r,hpre⟩:=WR (x:=n) (fa:=Aa m) (skip:=-1) (inst:=0) (to0:=BD (Aa n)) (an0:=m.2.2.1) n.2.2.1.length;rw[←hB,hq] at hpre;simp only at hpre
   obtain rfl:r=[]:=by
    rw[hpre,EM] at htl;exact Gx (by omega)
   rw[List.append_nil] at hpre;subst hpre;refine Ac (kI) [] [3] (by simp) ?_;simp[Ap]
   cases ok with
   | false =>
     rw[if_neg (by simp)] at hRt;subst hRt;simp[Ap];exact⟨[],by simp[Ap]⟩
   | true =>
     rw[if_pos rfl] at hRt;subst hRt;have hmm:=hmap rfl;simp;refine Av [(5,[]),(6,[]),(7,[])] (by kernel_rfl) ?_;simp[Ao];refine Ab (hroots) ?_;simp[Ao];refine Ab (hmm) ?_;simp;exact⟨[],by simp[Ap]⟩
theorem bK {P:Program} {f:FuncId} {x:V} {ys:List V} {t1 t2 t3 u1 u2 u3:TypeId} {sl sl':List Ah} {r:V} (h:CM P f (.agg [x,.d (.sl t1 []),.d (.sl t2 []),.d (.sl t3 [])]::ys) sl r sl'):CM P f (.agg [x,.nil u1,.nil u2,.nil u3]::ys) sl r sl':=by
 refine⟨h.1,h.2.1,fun w φ Fs R hR vs hm hl hv=>h.2.2 w φ Fs R hR vs hm (by simpa using hl) fun i y v hx hv'=>?_⟩
 match i with
 | i+1=>exact hv (i+1) y v (by simpa using hx) hv'
 | 0 =>
   simp at hx;subst hx;have h0:=hv 0 _ v rfl hv'
   cases h0 with
   | @agg _ vs hl1 h1 h2 =>
     refine .agg (by simpa using hl1) h1 fun i y v hy hvv=>?_
     match i with
     | 0=>exact h2 0 y v (by simpa using hy) hvv
     | 1 =>
       simp at hy;subst hy;have:=h2 1 (.nil u1) v rfl hvv
       cases this;exact .d (.nil _ _ _)
     | 2 =>
       simp at hy;subst hy;have:=h2 2 (.nil u2) v rfl hvv
       cases this;exact .d (.nil _ _ _)
     | 3 =>
       simp at hy;subst hy;have:=h2 3 (.nil u3) v rfl hvv
       cases this;exact .d (.nil _ _ _)
     | i+4=>simp at hy
theorem OD {x:AK} {a b:Int} (hok:Al x=true):Al (OL x a b).1=true:=by
 obtain⟨-,-,p3⟩:=FX (x:=x) (a:=a) (b:=Dd b) hok;obtain⟨-,-,r3⟩:=FX (x:=(Dj x a (Dd b)).1) (a:=Dd a) (b:=b) p3;unfold OL JH;split
 · exact hok
 · exact (LU r3).2.2
theorem WT (a b:AK) (ha:CF 1048576 a) (hb:CF 1048576 b) (ga:Kz a) (gb:Kz b):CM Tryz.prog 16 [TC a,TC b] [] (.tup [TC (Fx a b),.d (.bool (Ek a b))]) []:=by
 have hB:G3 a b=(Al a&&Al b&&decide (a.1=b.1)&&decide (a.2.1.length=b.2.1.length)&&decide (a.2.2.2.length=b.2.2.2.length)&&decide (a.1+(a.2.1.length:Int)≤20)&&(a.2.1.zip b.2.1).all fun p=>decide (p.1.1=p.2.1)):=rfl;have hO:Ek a b=(G3 a b&&(Cq a).2.2&&(Cw a b).2.2&&(DN a b).2.2):=rfl;have hG:Fx a b=if Ek a b=true then (a.1+(a.2.1.length:Int),[],(DN a b).2.1,[(DN a b).1]) else (0,[],[],[]):=rfl;have ka:=Cr a ha ga;have kb:=Cr b hb gb;generalize Fx a b=G at *;generalize Ek a b=O at *
 have hzero:G3 a b=false→O=false∧G=(0,[],[],[]):=fun h=>by
  rw[h] at hO;simp only[Bool.false_and] at hO;rw[hO,if_neg (by simp)] at hG;exact⟨hO,hG⟩
 have hcp:=Hy (a:=a) (b:=b);generalize G3 a b=C at *;refine BE (by kernel_rfl) Tryz.func16 rfl rfl rfl (by simp[Bl,Later]) (by simp[BP,Ah.live]) ?_;simp
 cases hoa:Al a with
 | false =>
   rw[hoa] at ka hB;simp only[Bool.false_and] at hB;obtain⟨rfl,rfl⟩:=hzero hB;refine Ab (ka) ?_;simp[Ao];exact⟨[],by simp⟩
 | true =>
 rw[hoa] at ka hB;simp only[Bool.true_and] at hB;obtain⟨⟨n1,n2,n3,n4,n5,n6⟩,-,-,-⟩:=AA hoa;refine Ab (ka) ?_;simp[Ao]
 cases hob:Al b with
 | false =>
   rw[hob] at kb hB;simp only[Bool.false_and] at hB;obtain⟨rfl,rfl⟩:=hzero hB;refine Ab (kb) ?_;simp[Ao];exact⟨[],by simp⟩
 | true =>
 rw[hob] at kb hB;simp only[Bool.true_and] at hB;obtain⟨⟨m1,m2,m3,m4,m5,m6⟩,-,-,-⟩:=AA hob;by_cases h1:a.1=b.1
 case neg =>
  rw[BH h1] at hB;simp only[Bool.false_and] at hB;obtain⟨rfl,rfl⟩:=hzero hB;refine Ab (kb) ?_;simp[Ao,h1,show (a.1 != b.1)=true by simpa using h1];exact⟨[],by simp⟩
 rw[A8 h1] at hB;simp only[Bool.true_and] at hB;by_cases h2:a.2.1.length=b.2.1.length
 case neg =>
  rw[BH h2] at hB;simp only[Bool.false_and] at hB;obtain⟨rfl,rfl⟩:=hzero hB;refine Ab (kb) ?_;simp[Ao,h1,h2,show ((a.2.1.length:Int) != (b.2.1.length:Int))=true by simpa using (by omega:¬ (a.2.1.length:Int)=b.2.1.length)];exact⟨[],by simp⟩
 rw[A8 h2] at hB;simp only[Bool.true_and] at hB;by_cases h3:a.2.2.2.length=b.2.2.2.length
 case neg =>
  rw[BH h3] at hB;simp only[Bool.false_and] at hB;obtain⟨rfl,rfl⟩:=hzero hB;refine Ab (kb) ?_;simp[Ao,h1,h2,h3,show ((a.2.2.2.length:Int) != (b.2.2.2.length:Int))=true by simpa using (by omega:¬ (a.2.2.2.length:Int)=b.2.2.2.length)];exact⟨[],by simp⟩
 rw[A8 h3] at hB;simp only[Bool.true_and] at hB;have w1:IntKind.i64.wrap (b.1+(b.2.1.length:Int))=b.1+b.2.1.length:=Ad (by omega) (by omega);by_cases h4:a.1+(a.2.1.length:Int)≤20
 case neg =>
  rw[BH h4] at hB;simp only[Bool.false_and] at hB;obtain⟨rfl,rfl⟩:=hzero hB;refine Ab (kb) ?_;simp[Ao,h1,h2,h3,w1,show (20:Int)<b.1+b.2.1.length by omega,show ¬ b.1+(b.2.1.length:Int)≤20 by omega];exact⟨[],by simp⟩
 rw[A8 h4] at hB;simp only[Bool.true_and] at hB;refine Ab (kb) ?_;simp[Ao,h1,h2,h3,w1,show ¬ (20:Int)<b.1+b.2.1.length by omega,show b.1+(b.2.1.length:Int)≤20 by omega];obtain⟨zs,hzs⟩:∃ zs,a.2.1.zip b.2.1=zs:=⟨_,rfl⟩;rw[hzs] at hB;have hzl:zs.length=b.2.1.length:=by rw[←hzs];simp;omega
 refine AB [false,false,true,true,true,false,true] (fun i:Nat=>i≤zs.length∧((zs.take i).all fun p=>decide (p.1.1=p.2.1))=true) (fun i:Nat=>[(6,.d (.int .i64 i))]) (fun i:Nat=>[]) (fun i:Nat=>zs.length - i) 0 ?_ ?_ ?_
 · exact⟨Nat.zero_le _,rfl⟩
 · exact⟨[0,1,2],by simp⟩
 rintro J S μ hJ hS hμ i ⟨hi,hal⟩;by_cases hlt:i<zs.length
 · have hz1:zs[i]? = some zs[i]:=A1 hlt;have hsn:=De (p:=fun p:Cx×Cx=>decide (p.1.1=p.2.1)) hz1;rw[hal,Bool.true_and] at hsn
   have hno:decide ((zs[i]).1.1=(zs[i]).2.1)=false→(zs.all fun p=>decide (p.1.1=p.2.1))=false:=fun h=>by
    rw[List.all_eq_false];exact⟨_,D4 hz1,by simpa using h⟩
   have hz2:(a.2.1.zip b.2.1)[i]? = some zs[i]:=(congrArg (fun q:List (Cx×Cx)=>q[i]?) hzs).trans hz1;rw[List.getElem?_zip_eq_some] at hz2;obtain⟨z1,z2⟩:=hz2;have w2:IntKind.i64.wrap ((i:Int)+1)=(i:Int)+1:=Ad (by omega) (by omega);generalize zs[i]=z at *;obtain⟨sa,sb⟩:=z;simp only at z1 z2 hsn hno;have hLa:(AY sa).length=3:=rfl;have hLb:(AY sb).length=3:=rfl;have hd:decide (i<b.2.1.length)=true:=A8 (by omega);by_cases hk:sa.1=sb.1
   · rw[A8 hk] at hsn;simp[h2,hd];refine AH 13 (by kernel_rfl) ?_;simp[z1,z2,hLa,hLb,AY,hk,w2];exact Ae hJ hS hμ (i+1) ⟨by omega,hsn⟩ (by omega) ⟨[0,1,2],by simp⟩
   · rw[hno (BH hk)] at hB;obtain⟨rfl,rfl⟩:=hzero hB;simp[h2,hd];refine AH 13 (by kernel_rfl) ?_;simp[z1,z2,hLa,hLb,AY,hk,show (sa.1 != sb.1)=true by simpa using hk];exact⟨[],by simp⟩
 obtain rfl:i=zs.length:=by omega
 rw[List.take_length] at hal;rw[hal] at hB;obtain⟨-,-,-,-,-,-,hfb,hrl⟩:=hcp hB;clear hJ hS hμ hzero hcp;rw[hB] at hO;simp only[Bool.true_and] at hO;obtain⟨hFa,hga,hNa,-⟩:=A9 hoa;obtain⟨hFb,hgb,hNb,-⟩:=A9 hob;have hNea:=Br a;have hNeb:=Br b;obtain⟨I,hI⟩:∃ I,b.1+(b.2.1.length:Int)=I:=⟨_,rfl⟩;have hI':a.1+(a.2.1.length:Int)=I:=by omega
 rw[hI] at w1;rw[hI'] at hG;have hI20:0≤I∧I≤20:=by omega
 have hfm:Aa ((I,[],[],[]):AK)=Aa a:=by unfold Aa;simp;unfold Aa at hFa;omega
 have hm0:Al ((I,[],[],[]):AK)=true:=by
  unfold Al Bz;rw[if_pos ⟨AP.2 (by omega),by simp,by simp,by simp⟩];simp[Ay,JE,BU];omega
 have i1:JS (Aa ((I,[],[],[]):AK)) (Aa a) (BD (Aa a),([]:List Ai),true):=⟨fun _=>CV,Nat.le_of_eq CV,H9 (by simp only[hfm];simp),by simp,rfl⟩;have k1:=Km ((I,[],[],[]):AK) a hm0 hoa hfm.symm i1;have e1':OY ((I,[],[],[]):AK) a=Cq a:=by unfold OY Cq Dk;rw[hfm]
 have p1:=Hu (x:=a) hoa (an0:=[]) (by simp) rfl (i:=a.2.2.1.length) (Nat.le_refl _);have hi1:Dk a [] a.2.2.1.length=Cq a:=rfl;rw[hi1] at p1;have eR:HP ((I,[],[],[]):AK) a=if (Cq a).2.2=true then Bo a (Cq a).1 else []:=by unfold HP;rw[e1']
 rw[e1',eR] at k1;have k1':=bK (u1:=57) (u2:=63) (u3:=3) k1;obtain⟨⟨tA,an1,okA⟩,hq1⟩:∃ q,Cq a=q:=⟨_,rfl⟩;rw[hq1] at k1' p1 hO;simp only at k1' p1 hO
 cases okA with
 | false =>
   simp only[Bool.false_and] at hO;rw[hO,if_neg (by simp)] at hG;subst hO hG;simp[h2,hzl,w1,hI];refine Ac k1' [] [] (by simp[h1]) ?_;simp[Ap];exact⟨[],by simp⟩
 | true =>
 rw[if_pos rfl] at k1';simp only[Bool.true_and] at hO;have hi2:Dk b an1 b.2.2.1.length=Cw a b:=by unfold Cw;rw[hq1]
 have p2:=Hu (x:=b) hob p1.1.an (by rw[hfb];exact p1.1.ok) (i:=b.2.2.1.length) (Nat.le_refl _);rw[hi2] at p2;have hmA:Al (Ap ((I,[],[],[]):AK) an1)=true:=CY hm0 (by simp) p1.1.an (by rw[hfm];exact p1.1.ok);have hfmA:Aa (Ap ((I,[],[],[]):AK) an1)=Aa a:=hfm;have i2:JS (Aa (Ap ((I,[],[],[]):AK) an1)) (Aa b) (BD (Aa b),(Ap ((I,[],[],[]):AK) an1).2.2.1,true):=⟨fun _=>CV,Nat.le_of_eq CV,H9 (by rw[hfmA,hfb];omega),p1.1.an,by rw[hfmA];exact p1.1.ok⟩;have k2:=Km (Ap ((I,[],[],[]):AK) an1) b hmA hob (hfb.trans hfmA.symm) i2;have e2':OY (Ap ((I,[],[],[]):AK) an1) b=Cw a b:=by rw[←hi2];unfold OY Dk;rw[hfmA,←hfb];rfl
 have eR2:HP (Ap ((I,[],[],[]):AK) an1) b=if (Cw a b).2.2=true then Bo b (Cw a b).1 else []:=by unfold HP;rw[e2']
 rw[e2',eR2] at k2;have hMr:DN a b=Bf (Aa a) (Bo a tA) (Bo b (Cw a b).1) (Cw a b).2.1 (Ay a).length:=by unfold DN;rw[hq1]
 obtain⟨⟨tB,an0,okB⟩,hq2⟩:∃ q,Cw a b=q:=⟨_,rfl⟩;rw[hq2] at k2 p2 hO hMr;simp only at k2 p2 hO hMr
 cases okB with
 | false =>
   simp only[Bool.false_and] at hO;rw[hO,if_neg (by simp)] at hG;subst hO hG;simp[h2,hzl,w1,hI];refine Ac k1' [] [] (by simp[h1]) ?_;simp[Ap];refine Ac k2 [] [] (by simp[Ap]) ?_;simp[Ap];exact⟨[],by simp⟩
 | true =>
 rw[if_pos rfl] at k2;simp only[Bool.true_and] at hO;have hra:(Bo a tA).length=(Ay a).length:=by simp[Bo]
 have hrb:(Bo b tB).length=(Ay a).length:=by simp[Bo,hrl]
 have h300:an0.length≤300:=p2.1.an;have hmB:Al (Ap ((I,[],[],[]):AK) an0)=true:=CY hm0 (by simp) p2.1.an (by rw[hfm,←hfb];exact p2.1.ok);have hpA:=p1.1.pl;have hpB:=p2.1.pl;rw[hfb] at hpB;have hle:=p2.2;simp only at hpA hpB hle
 have hrA:∀ k:Int,k∈Bo a tA→0≤k∧k<2*((Aa a:Int)+an0.length):=fun k hk=>by
  obtain⟨l,-,rfl⟩:=CE.1 hk;have hq:JY ((Aa a:Int)+an0.length) tA:=HM hpA (by omega);exact Bp (BK hq (by omega) _) (by omega)
 have hrB:∀ k:Int,k∈Bo b tB→0≤k∧k<2*((Aa a:Int)+an0.length):=fun k hk=>by
  obtain⟨l,-,rfl⟩:=CE.1 hk;exact Bp (BK hpB (by omega) _) (by omega)
 have hnr0:=Gr (x:=a) (k:=a.2.1.length) (M:=4) (fun s hs=>DP ((AA hoa).2.1 s hs));rw[Gi] at hnr0;simp[h2,hzl,w1,hI];refine Ac k1' [] [] (by simp[h1]) ?_;simp[Ap];refine Ac k2 [] [] (by simp[Ap]) ?_;generalize Bo a tA=ra at *;generalize Bo b tB=rb at *;generalize DN a b=MR at *;have hrl16:=hra;generalize (Ay a).length=nr at *;have hnr:nr≤64:=by omega
 simp[Ap];refine AB [false,false,false,false,true,false,false,true,true,false,true,true,true] (fun q:Nat×Int×List Ai=>q.1≤nr∧Bf (Aa a) ra rb an0 q.1=(q.2.1,q.2.2,true)∧Al (Ap ((I,[],[],[]):AK) q.2.2)=true) (fun q:Nat×Int×List Ai=>[(11,.d (.int .i64 q.2.1)),(12,.d (.int .i64 q.1))]) (fun q:Nat×Int×List Ai=>[(3,.var 28 [.d (.int .i64 I),.d (.sl 57 []),.d (.sl 63 (q.2.2.map At)),.d (.sl 3 [])])]) (fun q:Nat×Int×List Ai=>nr - q.1) (0,0,an0) ?_ ?_ ?_
 · exact⟨Nat.zero_le _,rfl,hmB⟩
 · exact⟨[0,1,2,3],by simp⟩
 rintro J S μ hJ hS hμ ⟨i,sv,an⟩ ⟨hi,hst,hmO⟩;simp only at hi hst hmO;have hgf:=Fd (fa:=Aa a) (ra:=ra) (rb:=rb) (an0:=an0) (by omega) h300 hrA hrB (by omega) (by omega) i hi;rw[hst] at hgf;obtain⟨g1,g2,g3⟩:=hgf rfl;simp only at g1 g2 g3;by_cases hlt:i<nr
 case neg =>
  obtain rfl:i=nr:=by omega
  rw[hst] at hMr;subst hMr;simp only at hO;rw[hO,if_pos rfl] at hG;subst hO hG;simp[hra,hlt,BH hlt];exact⟨[],by simp⟩
 have hx1:ra[i]? = some (ra.getD i 0):=by rw[List.getD_eq_getElem?_getD,A1 (by omega)];rfl
 have hx2:rb[i]? = some (rb.getD i 0):=by rw[List.getD_eq_getElem?_getD,A1 (by omega)];rfl
 have b1:=hrA _ (D4 hx1);have b2:=hrB _ (D4 hx2);have hstp:=FL hst;generalize ra.getD i 0=xa at *;generalize rb.getD i 0=xb at *;have w6:IntKind.i64.wrap ((i:Int)+1)=(i:Int)+1:=Ad (by omega) (by omega);have hgN:(A0 (Ap ((I,[],[],[]):AK) an):Int)=Aa a+an.length:=by rw[Ct,hfm];omega
 have kx:=U6 (Ap ((I,[],[],[]):AK) an) xa xb hmO (by omega) (by omega);have eX:=U5 (x:=Ap ((I,[],[],[]):AK) an) (a:=xa) (b:=xb) g3 (by omega) (by omega);have hmX:=OD (x:=Ap ((I,[],[],[]):AK) an) (a:=xa) (b:=xb) hmO;have xr:=HO (fa:=Aa a) (an:=an) (a:=xa) (b:=xb) (by omega) g3 (by omega) (by omega);have eF:Cz (Aa (Ap ((I,[],[],[]):AK) an)) (Ap ((I,[],[],[]):AK) an).2.2.1 xa xb=Cz (Aa a) an xa xb:=by rw[show Aa (Ap ((I,[],[],[]):AK) an)=Aa a from hfm];rfl
 rw[eF] at eX;obtain⟨⟨xv,an1'⟩,hX⟩:∃ q,Cz (Aa a) an xa xb=q:=⟨_,rfl⟩;rw[hX] at eX xr hstp;obtain⟨x1,x2,x3,x4⟩:=xr;simp only at x1 x2 x3 x4 hstp eX
 have hfail:Bf (Aa a) ra rb an0 (i+1)=(0,[],false)→O=false∧G=(0,[],[],[]):=fun h=>by
  have hff:=Bs (show (Bf (Aa a) ra rb an0 (i+1)).2.2=false by rw[h]) (nr - (i+1));rw[show i+1+(nr - (i+1))=nr by omega,←hMr] at hff;rw[hff] at hO;rw[hO,if_neg (by simp)] at hG;exact⟨hO,hG⟩
 by_cases hv:xv<0
 · rw[if_pos hv] at eX hstp;rw[eX] at kx hmX;have ko:=JI (Ap ((I,[],[],[]):AK) an) sv (-1) hmO (by omega) (by omega);rw[Rl (Or.inr (by omega))] at ko;obtain⟨rfl,rfl⟩:=hfail hstp;simp[hra,hlt,A8 hlt];refine Av [(14,[12]),(15,[])] (by kernel_rfl) ?_;simp[hx1,hx2,Ao,Ap];refine Ab (kx) ?_;simp[Ao,Ap];refine Ab (ko) ?_;simp[Ao,Ap];exact⟨[],by simp⟩
 rw[if_neg hv] at eX hstp;rw[eX] at kx hmX;simp only at kx hmX;have ko:=JI (Ap (Ap ((I,[],[],[]):AK) an) an1') sv xv hmX (by omega) (by omega);have hgN2:(A0 (Ap (Ap ((I,[],[],[]):AK) an) an1'):Int)=Aa a+an1'.length:=by rw[Ct,show Aa (Ap ((I,[],[],[]):AK) an)=Aa a from hfm];omega
 have eO:=PB (x:=Ap (Ap ((I,[],[],[]):AK) an) an1') (a:=sv) (b:=xv) (by omega) (by omega);rw[show Aa (Ap (Ap ((I,[],[],[]):AK) an) an1')=Aa a from hfm,show (Ap (Ap ((I,[],[],[]):AK) an) an1').2.2.1=an1' from rfl] at eO;have hmO2:=(LU (x:=Ap (Ap ((I,[],[],[]):AK) an) an1') (a:=sv) (b:=xv) hmX).2.2;generalize Gw (Aa a) an1' sv xv=ov at *;generalize Ar an1' (Af sv) (Af xv)=an2 at *;by_cases hv2:ov<0
 · rw[if_pos hv2] at eO hstp;rw[eO] at ko;obtain⟨rfl,rfl⟩:=hfail hstp;simp[hra,hlt,A8 hlt];refine Av [(14,[12]),(15,[])] (by kernel_rfl) ?_;simp[hx1,hx2,Ao,Ap];refine Ab (kx) ?_;simp[Ao,Ap];refine Ab (ko) ?_;simp[Ao,Ap];exact⟨[],by simp⟩
 rw[if_neg hv2] at eO hstp;rw[eO] at ko hmO2;simp only at ko hmO2;simp[hra,hlt,A8 hlt];refine Av [(14,[12]),(15,[])] (by kernel_rfl) ?_;simp[hx1,hx2,Ao,Ap];refine Ab (kx) ?_;simp[Ao,Ap];refine Ab (ko) ?_;simp[Ao,Ap,w6,hv2,BH hv2,show 0≤ov by omega];exact Ae hJ hS hμ (i+1,ov,an2) ⟨by omega,hstp,hmO2⟩ (by simp only;omega) ⟨[0,1,2,3],by simp⟩
end Go.Proofs.YtnjedabjbeipeaaGreat
