/-
  Places of a net's nodes, by abstract walks: the program.
  Conditions: those typed in each theorem.
-/
import Derived.Test.YtnjedabjbeipeaaGreatRl
namespace Go.Proofs.YtnjedabjbeipeaaGreat
open Go.RowKit Go.ChangeShapes Go.WideShapes
set_option linter.unusedSimpArgs false
set_option linter.unusedVariables false
set_option maxRecDepth 100000
set_option maxHeartbeats 10000000
def Er (p:List Int) (n:Nat):List Int:=p++List.replicate (n - p.length) 0
theorem Mk {p:List Int} {n:Nat} (h:p.length≤n):(Er p n).length=n:=by simp[Er];omega
theorem eL {p:List Int} {n:Nat} {v:Int} (h:p.length<n):(Er p n).set p.length v=Er (p++[v]) n:=by
 unfold Er;rw[List.set_append_right _ _ (Nat.le_refl _),Nat.sub_self];obtain⟨m,hm⟩:∃ m,n - p.length=m+1:=⟨n - p.length - 1,by omega⟩;rw[hm,List.replicate_succ,List.set_cons_zero,AB2]
 congr 1
 rw[AB0,List.length_cons,List.length_nil,show n - (p.length+(0+1))=m by omega];rfl
theorem Po {p:List Int} {n:Nat} (h:p.length=n):Er p n=p:=by simp[Er,h]
theorem QO {p:List Int} {n:Nat} {l:Int} (h:0≤l∧l<2*(p.length:Int)):Aq (Er p n) l=Aq p l:=WE h
theorem Kv {p:List Int} {n:Nat} {v:Int} (h:p.length<n):((Er p n).map (e1 AC)).set p.length [.int .i64 v]=(Er (p++[v]) n).map (e1 AC):=by
 rw[←eL h];exact lJ
theorem Jf (x:AK) (hx:Cz 1048576 x) (hok:Al x=true):Bx Tryz.prog 48 [Ge x] (ints (Er (BB (Aa x)) (A0 x))):=by
 obtain⟨⟨n1,n2,n3,n4,n5,n6⟩,-,-,-⟩:=AA hok;obtain⟨hF,hgl,hNi,hno⟩:=A7 hok;have hN:=Bp x;have hNt:(1+x.1+(x.2.1.length:Int)+(x.2.2.1.length:Int)).toNat=A0 x:=by omega
 have hrep:List.replicate (A0 x) [D.int .i64 0]=(Er (BB 0) (A0 x)).map (e1 AC):=by simp[Er,BB,e1,AC]
 refine A5 (by kernel_rfl) Tryz.func48 rfl rfl rfl ?_;simp[Ao];refine Ab (Df x ⟨n1,n2⟩ n3 n4) ?_;simp;refine⟨⟨by omega,by omega⟩,?_⟩;rw[hNt,hrep];refine AB [false,true,false,true,true] (fun i:Nat=>i≤Aa x) (fun i:Nat=>[(4,.d (.int .i64 i))]) (fun i:Nat=>[(1,.arr 3 true ((Er (BB i) (A0 x)).map (e1 AC)))]) (fun i:Nat=>Aa x - i) 0 ?_ ?_ ?_
 · exact Nat.zero_le _
 · exact⟨[0,1],by simp⟩
 rintro I S μ hI hS hμ i hi;by_cases hlt:i<Aa x
 · have w1:IntKind.i64.wrap ((i:Int)+1)=(i:Int)+1:=Ad (by omega) (by omega);have w2:IntKind.i64.wrap (2*(i:Int))=2*(i:Int):=Ad (by omega) (by omega);have hll:=CO (n:=i);have hset:=Kv (p:=BB i) (n:=A0 x) (v:=2*(i:Int)) (by omega);rw[hll,←Lq] at hset;have hpl:=Mk (p:=BB i) (n:=A0 x) (by omega);have hat:(Er (BB i) (A0 x))[i]? = some (A1 (Er (BB i) (A0 x)) i):=B8 (k:=i) (by omega);generalize Er (BB i) (A0 x)=p at *;generalize A1 p i=pv at *;simp[Ao];refine Ab (BF x ⟨n1,n2⟩ n3) ?_;simp[show (i:Int)<1+x.1+x.2.1.length by omega,w1,w2,hset,hat];exact Ae hI hS hμ (i+1) (by omega) (by omega) ⟨[0,1],by simp⟩
 · obtain rfl:i=Aa x:=by omega
   simp[Ao];refine Ab (BF x ⟨n1,n2⟩ n3) ?_;simp[show ¬ ((Aa x:Nat):Int)<1+x.1+x.2.1.length by omega]
theorem Fx (pl:List Int) (l:Int) (hp:pl.length≤1048576) (hl:0≤l∧l<2*(pl.length:Int)):Bx Tryz.prog 50 [ints pl,.d (.int .i64 l)] (.d (.int .i64 (Aq pl l))):=by
 have w1:IntKind.i64.wrap (l.tdiv 2)=l / 2:=by rw[Int.tdiv_eq_ediv_of_nonneg hl.1,Ad (by omega) (by omega)]
 have hat:=B8 (lv:=pl) (k:=l / 2) (by omega);have w2:=CC l;have hm:Bl (A1 pl (l / 2)) (l % 2)=Aq pl l:=rfl;generalize Aq pl l=r at *;generalize A1 pl (l / 2)=v at *;have hn:¬ l / 2<0:=by omega
 generalize l / 2=h at *;refine A5 (by kernel_rfl) Tryz.func50 rfl rfl rfl ?_;simp[w1,hat,w2,hm,hn]
theorem Kd (pl ls:List Int) (hp:pl.length≤1048576) (hn:ls.length≤1048576) (hl:iL pl.length ls):Bx Tryz.prog 52 [ints pl,ints ls] (ints (ls.map (Aq pl))):=by
 refine A5 (by kernel_rfl) Tryz.func52 rfl rfl rfl ?_;simp;refine AH [true,false,false,false,false,true,false,false,true,true,true] (fun i:Nat=>i≤ls.length) (fun i:Nat=>[(5,C7 i 0),(10,.d (.int .i64 i))]) (fun i:Nat=>C8 i ((ls.take i).map (Aq pl))) (fun i:Nat=>ls.length - i) 0 ?_ ?_ ?_
 · simp
 · exact⟨[],by simp[C7,C8]⟩
 rintro I S μ hI hS hμ i hi;by_cases hlt:i<ls.length
 · have hx1:ls[i]? = some (ls.getD i 0):=by rw[List.getD_eq_getElem?_getD,zz0 hlt];rfl
   have hx2:∀ h:i<ls.length,ls[i]'h=ls.getD i 0:=fun h=>by simp[List.getD_eq_getElem?_getD,h]
   have hli:=hl _ (zz6 hx1);have hnx:(ls.take (i+1)).map (Aq pl)=(ls.take i).map (Aq pl)++[Aq pl (ls.getD i 0)]:=by rw[Ba hx1,ABe];rfl
   have hll:((ls.take i).map (Aq pl)).length=i:=by simp;omega
   have w2:IntKind.i64.wrap ((i:Int)+1)=(i:Int)+1:=Ad (by omega) (by omega);have k:=Fx pl (ls.getD i 0) hp hli;generalize Aq pl (ls.getD i 0)=mv at *;generalize ls.getD i 0=l at *;generalize (ls.take i).map (Aq pl)=ms at *;by_cases hi0:i=0
   · subst hi0;obtain rfl:ms=[]:=zz7 hll;simp[C7,C8,hlt,zz2 hlt,hx1,hx2];refine Ab (k) ?_;simp;refine Ak As rfl (by simp) rfl (by simp) (by simp) (by first | (simp;done)|(simp;omega)) (by simp[AR,AL]) ?_;simp[w2,show IntKind.i64.wrap 1=1 from rfl];exact Ae hI hS hμ 1 (by omega) (by omega) ⟨[1],by simp only[C7,C8];rw[hnx];simp[e1,AC]⟩
   · simp[C7,C8,zz2 hlt,hx1,hi0];refine Ab (k) ?_;simp;refine Ak As rfl (by simp) rfl (by simp) (by simp) (by first | (simp;done)|(simp;omega)) (by simp[AR,AL]) ?_;simp[w2];exact Ae hI hS hμ (i+1) (by omega) (by omega) ⟨[2],by simp only[C7,C8];rw[hnx];simp[e1,AC]⟩
 · obtain rfl:i=ls.length:=by omega
   rw[List.take_length];by_cases hi0:ls.length=0
   · obtain rfl:=zz7 hi0;simp[C7,C8]
   · simp[C7,C8,hlt,hi0,zz3 hlt]
theorem Qd (a b:AK) (ha:Cz 1048576 a) (hb:Cz 1048576 b):Bx Tryz.prog 47 [Ge a,Ge b] (.d (.bool (GL a b))):=by
 have hB:GL a b=(Al a&&Al b&&decide (a.1=b.1)&&decide (a.2.1.length=b.2.1.length)&&decide (a.2.2.2.length=b.2.2.2.length)&&decide (a.1+(a.2.1.length:Int)≤20)&&(a.2.1.zip b.2.1).all fun p=>decide (p.1.1=p.2.1)):=rfl;have ka:=IK a ha;have kb:=IK b hb;generalize GL a b=R at *;refine B3 (by kernel_rfl) Tryz.func47 rfl rfl rfl ?_;simp[Ao]
 cases hoa:Al a with
 | false =>
   rw[hoa] at ka hB;simp only[Bool.false_and] at hB;refine Ab (ka) ?_;simp[Ao,hB]
 | true =>
 rw[hoa] at ka hB;simp only[Bool.true_and] at hB;obtain⟨⟨n1,n2,n3,n4,n5,n6⟩,-,-,-⟩:=AA hoa;refine Ab (ka) ?_;simp[Ao]
 cases hob:Al b with
 | false =>
   rw[hob] at kb hB;simp only[Bool.false_and] at hB;refine Ab (kb) ?_;simp[Ao,hB]
 | true =>
 rw[hob] at kb hB;simp only[Bool.true_and] at hB;obtain⟨⟨m1,m2,m3,m4,m5,m6⟩,-,-,-⟩:=AA hob;by_cases h1:a.1=b.1
 case neg =>
  rw[zz3 h1] at hB;simp only[Bool.false_and] at hB;refine Ab (kb) ?_;simp[Ao,hB,h1,show (a.1 != b.1)=true by simpa using h1]
 rw[zz2 h1] at hB;simp only[Bool.true_and] at hB;by_cases h2:a.2.1.length=b.2.1.length
 case neg =>
  rw[zz3 h2] at hB;simp only[Bool.false_and] at hB;refine Ab (kb) ?_;simp[Ao,hB,h1,h2,show ((a.2.1.length:Int) != (b.2.1.length:Int))=true by simpa using (by omega:¬ (a.2.1.length:Int)=b.2.1.length)]
 rw[zz2 h2] at hB;simp only[Bool.true_and] at hB;by_cases h3:a.2.2.2.length=b.2.2.2.length
 case neg =>
  rw[zz3 h3] at hB;simp only[Bool.false_and] at hB;refine Ab (kb) ?_;simp[Ao,hB,h1,h2,h3,show ((a.2.2.2.length:Int) != (b.2.2.2.length:Int))=true by simpa using (by omega:¬ (a.2.2.2.length:Int)=b.2.2.2.length)]
 rw[zz2 h3] at hB;simp only[Bool.true_and] at hB;have w1:IntKind.i64.wrap (b.1+(b.2.1.length:Int))=b.1+b.2.1.length:=Ad (by omega) (by omega);by_cases h4:a.1+(a.2.1.length:Int)≤20
 case neg =>
  rw[zz3 h4] at hB;simp only[Bool.false_and] at hB;refine Ab (kb) ?_;simp[Ao,hB,h1,h2,h3,w1,show (20:Int)<b.1+b.2.1.length by omega,show ¬ b.1+(b.2.1.length:Int)≤20 by omega]
 rw[zz2 h4] at hB;simp only[Bool.true_and] at hB;refine Ab (kb) ?_;simp[Ao,h1,h2,h3,w1,show ¬ (20:Int)<b.1+b.2.1.length by omega,show b.1+(b.2.1.length:Int)≤20 by omega];obtain⟨zs,hzs⟩:∃ zs,a.2.1.zip b.2.1=zs:=⟨_,rfl⟩;rw[hzs] at hB;have hzl:zs.length=b.2.1.length:=by rw[←hzs];simp;omega
 refine AB [false,false,true,true,false,false,false,false,false,false,false,false,false,false,false,false,false,false,false,false,false,false,false,false,false,false,false,false,false,false,false,false,false,false,false,false,false,false,false,false,false,false,false,false,false,false,false,false,false,false,true,true] (fun i:Nat=>i≤zs.length∧((zs.take i).all fun p=>decide (p.1.1=p.2.1))=true) (fun i:Nat=>[(51,.d (.int .i64 i))]) (fun i:Nat=>[]) (fun i:Nat=>zs.length - i) 0 ?_ ?_ ?_
 · exact⟨Nat.zero_le _,rfl⟩
 · exact⟨[0,1],by simp⟩
 rintro I S μ hI hS hμ i ⟨hi,hal⟩;by_cases hlt:i<zs.length
 · have hz1:zs[i]? = some zs[i]:=zz0 hlt;have hsn:=C6 (p:=fun p:Cr×Cr=>decide (p.1.1=p.2.1)) hz1;rw[hal,Bool.true_and] at hsn
   have hno:decide ((zs[i]).1.1=(zs[i]).2.1)=false→(zs.all fun p=>decide (p.1.1=p.2.1))=false:=fun h=>by
    rw[List.all_eq_false];exact⟨_,zz6 hz1,by simpa using h⟩
   have hz2:(a.2.1.zip b.2.1)[i]? = some zs[i]:=(congrArg (fun q:List (Cr×Cr)=>q[i]?) hzs).trans hz1;rw[List.getElem?_zip_eq_some] at hz2;obtain⟨z1,z2⟩:=hz2;have w2:IntKind.i64.wrap ((i:Int)+1)=(i:Int)+1:=Ad (by omega) (by omega);generalize zs[i]=z at *;obtain⟨sa,sb⟩:=z;simp only at z1 z2 hsn hno;have hLa:(AY sa).length=3:=rfl;have hLb:(AY sb).length=3:=rfl;have hd:decide (i<b.2.1.length)=true:=zz2 (by omega);by_cases hk:sa.1=sb.1
   · rw[zz2 hk] at hsn;simp[h2,hd];refine AJ 13 (by kernel_rfl) ?_;simp[z1,z2,hLa,hLb,AY,hk,w2];exact Ae hI hS hμ (i+1) ⟨by omega,hsn⟩ (by omega) ⟨[0,1],by simp⟩
   · rw[hno (zz3 hk)] at hB;simp[h2,hd];refine AJ 13 (by kernel_rfl) ?_;simp[z1,z2,hLa,hLb,AY,hk,show (sa.1 != sb.1)=true by simpa using hk,hB]
 · obtain rfl:i=zs.length:=by omega
   rw[List.take_length] at hal;rw[hal] at hB;simp[h2,hzl,hB]
end Go.Proofs.YtnjedabjbeipeaaGreat
