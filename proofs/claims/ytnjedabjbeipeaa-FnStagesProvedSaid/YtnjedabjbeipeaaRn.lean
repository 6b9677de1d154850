/-
  Places of a net's nodes, by abstract walks: the program.
  Conditions: those typed in each theorem.
-/
import Derived.Test.YtnjedabjbeipeaaRl
namespace Go.Proofs.Ytnjedabjbeipeaa
open Go.RowKit Go.ChangeShapes Go.WideShapes
set_option linter.unusedSimpArgs false
set_option linter.unusedVariables false
set_option maxRecDepth 100000
set_option maxHeartbeats 10000000
def Cd (p:List Int) (n:Nat):List Int:=p++List.replicate (n - p.length) 0
theorem Gx {p:List Int} {n:Nat} (h:p.length≤n):(Cd p n).length=n:=by simp[Cd];omega
theorem iF {p:List Int} {n:Nat} {v:Int} (h:p.length<n):(Cd p n).set p.length v=Cd (p++[v]) n:=by
 unfold Cd;rw[List.set_append_right _ _ (Nat.le_refl _),Nat.sub_self];obtain⟨m,hm⟩:∃ m,n - p.length=m+1:=⟨n - p.length - 1,by omega⟩;rw[hm,List.replicate_succ,List.set_cons_zero,ACY]
 congr 1
 rw[ACg,List.length_cons,List.length_nil,show n - (p.length+(0+1))=m by omega];rfl
theorem Hi {p:List Int} {n:Nat} (h:p.length=n):Cd p n=p:=by simp[Cd,h]
theorem Hp {p:List Int} {n:Nat} {l:Int} (h:0≤l∧l<2*(p.length:Int)):Ap (Cd p n) l=Ap p l:=U1 h
theorem Fr {p:List Int} {n:Nat} {v:Int} (h:p.length<n):((Cd p n).map (e1 Az)).set p.length [.int .i64 v]=(Cd (p++[v]) n).map (e1 Az):=by
 rw[←iF h];exact ABr
theorem DX (x:AB) (hx:DQ 1048576 x) (hok:Aj x=true):CI Try.prog 62 [N7 x] (ints (Cd (BQ (Aa x)) (AR x))):=by
 obtain⟨⟨n1,n2,n3,n4,n5,n6⟩,-,-,-⟩:=Ax hok;obtain⟨hF,hgl,hNi,hno⟩:=Bz hok;have hN:=Bn x;have hNt:(1+x.1+(x.2.1.length:Int)+(x.2.2.1.length:Int)).toNat=AR x:=by omega
 have hrep:List.replicate (AR x) [D.int .i64 0]=(Cd (BQ 0) (AR x)).map (e1 Az):=by simp[Cd,BQ,e1,Az]
 refine BD (by kernel_rfl) Try.func62 rfl rfl rfl ?_;simp[AL];refine Ab (BL x ⟨n1,n2⟩ n3 n4) ?_;simp;refine⟨⟨by omega,by omega⟩,?_⟩;rw[hNt,hrep];refine AY [false,true,false,true,true] (fun i:Nat=>i≤Aa x) (fun i:Nat=>[(4,.d (.int .i64 i))]) (fun i:Nat=>[(1,.arr 3 true ((Cd (BQ i) (AR x)).map (e1 Az)))]) (fun i:Nat=>Aa x - i) 0 ?_ ?_ ?_
 · exact Nat.zero_le _
 · exact⟨[0,1],by simp⟩
 rintro I S μ hI hS hμ i hi;by_cases hlt:i<Aa x
 · have w1:IntKind.i64.wrap ((i:Int)+1)=(i:Int)+1:=Af (by omega) (by omega);have w2:IntKind.i64.wrap (2*(i:Int))=2*(i:Int):=Af (by omega) (by omega);have hll:=EO (n:=i);have hset:=Fr (p:=BQ i) (n:=AR x) (v:=2*(i:Int)) (by omega);rw[hll,←Xz] at hset;have hpl:=Gx (p:=BQ i) (n:=AR x) (by omega);have hat:(Cd (BQ i) (AR x))[i]? = some (Av (Cd (BQ i) (AR x)) i):=CJ (k:=i) (by omega);generalize Cd (BQ i) (AR x)=p at *;generalize Av p i=pv at *;simp[AL];refine Ab (AW x ⟨n1,n2⟩ n3) ?_;simp[show (i:Int)<1+x.1+x.2.1.length by omega,w1,w2,hset,hat];exact Ae hI hS hμ (i+1) (by omega) (by omega) ⟨[0,1],by simp⟩
 · obtain rfl:i=Aa x:=by omega
   simp[AL];refine Ab (AW x ⟨n1,n2⟩ n3) ?_;simp[show ¬ ((Aa x:Nat):Int)<1+x.1+x.2.1.length by omega]
theorem CD (pl:List Int) (l:Int) (hp:pl.length≤1048576) (hl:0≤l∧l<2*(pl.length:Int)):CI Try.prog 66 [ints pl,.d (.int .i64 l)] (.d (.int .i64 (Ap pl l))):=by
 have w1:IntKind.i64.wrap (l.tdiv 2)=l / 2:=by rw[Int.tdiv_eq_ediv_of_nonneg hl.1,Af (by omega) (by omega)]
 have hat:=CJ (lv:=pl) (k:=l / 2) (by omega);have w2:=Fm l;have hm:Bd (Av pl (l / 2)) (l % 2)=Ap pl l:=rfl;generalize Ap pl l=r at *;generalize Av pl (l / 2)=v at *;have hn:¬ l / 2<0:=by omega
 generalize l / 2=h at *;refine BD (by kernel_rfl) Try.func66 rfl rfl rfl ?_;simp[w1,hat,w2,hm,hn]
theorem Eu (pl ls:List Int) (hp:pl.length≤1048576) (hn:ls.length≤1048576) (hl:F7 pl.length ls):CI Try.prog 84 [ints pl,ints ls] (ints (ls.map (Ap pl))):=by
 refine BD (by kernel_rfl) Try.func84 rfl rfl rfl ?_;simp;refine As [true,false,false,false,false,true,false,false,true,true,true] (fun i:Nat=>i≤ls.length) (fun i:Nat=>[(5,D9 i 0),(10,.d (.int .i64 i))]) (fun i:Nat=>Ea i ((ls.take i).map (Ap pl))) (fun i:Nat=>ls.length - i) 0 ?_ ?_ ?_
 · simp
 · exact⟨[],by simp[D9,Ea]⟩
 rintro I S μ hI hS hμ i hi;by_cases hlt:i<ls.length
 · have hx1:ls[i]? = some (ls.getD i 0):=by rw[List.getD_eq_getElem?_getD,zz0 hlt];rfl
   have hx2:∀ h:i<ls.length,ls[i]'h=ls.getD i 0:=fun h=>by simp[List.getD_eq_getElem?_getD,h]
   have hli:=hl _ (zz6 hx1);have hnx:(ls.take (i+1)).map (Ap pl)=(ls.take i).map (Ap pl)++[Ap pl (ls.getD i 0)]:=by rw[Bh hx1,ACX];rfl
   have hll:((ls.take i).map (Ap pl)).length=i:=by simp;omega
   have w2:IntKind.i64.wrap ((i:Int)+1)=(i:Int)+1:=Af (by omega) (by omega);have k:=CD pl (ls.getD i 0) hp hli;generalize Ap pl (ls.getD i 0)=mv at *;generalize ls.getD i 0=l at *;generalize (ls.take i).map (Ap pl)=ms at *;by_cases hi0:i=0
   · subst hi0;obtain rfl:ms=[]:=zz7 hll;simp[D9,Ea,hlt,zz2 hlt,hx1,hx2];refine Ab (k) ?_;simp;refine Aw AX rfl (by simp) rfl (by simp) (by simp) (by first | (simp;done)|(simp;omega)) (by simp[Bp,A4]) ?_;simp[w2,show IntKind.i64.wrap 1=1 from rfl];exact Ae hI hS hμ 1 (by omega) (by omega) ⟨[1],by simp only[D9,Ea];rw[hnx];simp[e1,Az]⟩
   · simp[D9,Ea,zz2 hlt,hx1,hi0];refine Ab (k) ?_;simp;refine Aw AX rfl (by simp) rfl (by simp) (by simp) (by first | (simp;done)|(simp;omega)) (by simp[Bp,A4]) ?_;simp[w2];exact Ae hI hS hμ (i+1) (by omega) (by omega) ⟨[2],by simp only[D9,Ea];rw[hnx];simp[e1,Az]⟩
 · obtain rfl:i=ls.length:=by omega
   rw[List.take_length];by_cases hi0:ls.length=0
   · obtain rfl:=zz7 hi0;simp[D9,Ea]
   · simp[D9,Ea,hlt,hi0,zz3 hlt]
theorem Pa (a b:AB) (ha:DQ 1048576 a) (hb:DQ 1048576 b):CI Try.prog 121 [N7 a,N7 b] (.d (.bool (Jm a b))):=by
 have hB:Jm a b=(Aj a&&Aj b&&decide (a.1=b.1)&&decide (a.2.1.length=b.2.1.length)&&decide (a.2.2.2.length=b.2.2.2.length)&&decide (a.1+(a.2.1.length:Int)≤20)&&(a.2.1.zip b.2.1).all fun p=>decide (p.1.1=p.2.1)):=rfl;have ka:=FU a ha;have kb:=FU b hb;generalize Jm a b=R at *;refine E1 (by kernel_rfl) Try.func121 rfl rfl rfl ?_;simp[AL]
 cases hoa:Aj a with
 | false =>
   rw[hoa] at ka hB;simp only[Bool.false_and] at hB;refine Ab (ka) ?_;simp[AL,hB]
 | true =>
 rw[hoa] at ka hB;simp only[Bool.true_and] at hB;obtain⟨⟨n1,n2,n3,n4,n5,n6⟩,-,-,-⟩:=Ax hoa;refine Ab (ka) ?_;simp[AL]
 cases hob:Aj b with
 | false =>
   rw[hob] at kb hB;simp only[Bool.false_and] at hB;refine Ab (kb) ?_;simp[AL,hB]
 | true =>
 rw[hob] at kb hB;simp only[Bool.true_and] at hB;obtain⟨⟨m1,m2,m3,m4,m5,m6⟩,-,-,-⟩:=Ax hob;by_cases h1:a.1=b.1
 case neg =>
  rw[zz3 h1] at hB;simp only[Bool.false_and] at hB;refine Ab (kb) ?_;simp[AL,hB,h1,show (a.1 != b.1)=true by simpa using h1]
 rw[zz2 h1] at hB;simp only[Bool.true_and] at hB;by_cases h2:a.2.1.length=b.2.1.length
 case neg =>
  rw[zz3 h2] at hB;simp only[Bool.false_and] at hB;refine Ab (kb) ?_;simp[AL,hB,h1,h2,show ((a.2.1.length:Int) != (b.2.1.length:Int))=true by simpa using (by omega:¬ (a.2.1.length:Int)=b.2.1.length)]
 rw[zz2 h2] at hB;simp only[Bool.true_and] at hB;by_cases h3:a.2.2.2.length=b.2.2.2.length
 case neg =>
  rw[zz3 h3] at hB;simp only[Bool.false_and] at hB;refine Ab (kb) ?_;simp[AL,hB,h1,h2,h3,show ((a.2.2.2.length:Int) != (b.2.2.2.length:Int))=true by simpa using (by omega:¬ (a.2.2.2.length:Int)=b.2.2.2.length)]
 rw[zz2 h3] at hB;simp only[Bool.true_and] at hB;have w1:IntKind.i64.wrap (b.1+(b.2.1.length:Int))=b.1+b.2.1.length:=Af (by omega) (by omega);by_cases h4:a.1+(a.2.1.length:Int)≤20
 case neg =>
  rw[zz3 h4] at hB;simp only[Bool.false_and] at hB;refine Ab (kb) ?_;simp[AL,hB,h1,h2,h3,w1,show (20:Int)<b.1+b.2.1.length by omega,show ¬ b.1+(b.2.1.length:Int)≤20 by omega]
 rw[zz2 h4] at hB;simp only[Bool.true_and] at hB;refine Ab (kb) ?_;simp[AL,h1,h2,h3,w1,show ¬ (20:Int)<b.1+b.2.1.length by omega,show b.1+(b.2.1.length:Int)≤20 by omega];obtain⟨zs,hzs⟩:∃ zs,a.2.1.zip b.2.1=zs:=⟨_,rfl⟩;rw[hzs] at hB;have hzl:zs.length=b.2.1.length:=by rw[←hzs];simp;omega
 refine AY [false,false,true,true,false,false,false,false,false,false,false,false,false,false,false,false,false,false,false,false,false,false,false,false,false,false,false,false,false,false,false,false,false,false,false,false,false,false,false,false,false,false,false,false,false,false,false,false,false,false,true,true] (fun i:Nat=>i≤zs.length∧((zs.take i).all fun p=>decide (p.1.1=p.2.1))=true) (fun i:Nat=>[(51,.d (.int .i64 i))]) (fun i:Nat=>[]) (fun i:Nat=>zs.length - i) 0 ?_ ?_ ?_
 · exact⟨Nat.zero_le _,rfl⟩
 · exact⟨[0,1],by simp⟩
 rintro I S μ hI hS hμ i ⟨hi,hal⟩;by_cases hlt:i<zs.length
 · have hz1:zs[i]? = some zs[i]:=zz0 hlt;have hsn:=Fu (p:=fun p:Dl×Dl=>decide (p.1.1=p.2.1)) hz1;rw[hal,Bool.true_and] at hsn
   have hno:decide ((zs[i]).1.1=(zs[i]).2.1)=false→(zs.all fun p=>decide (p.1.1=p.2.1))=false:=fun h=>by
    rw[List.all_eq_false];exact⟨_,zz6 hz1,by simpa using h⟩
   have hz2:(a.2.1.zip b.2.1)[i]? = some zs[i]:=(congrArg (fun q:List (Dl×Dl)=>q[i]?) hzs).trans hz1;rw[List.getElem?_zip_eq_some] at hz2;obtain⟨z1,z2⟩:=hz2;have w2:IntKind.i64.wrap ((i:Int)+1)=(i:Int)+1:=Af (by omega) (by omega);generalize zs[i]=z at *;obtain⟨sa,sb⟩:=z;simp only at z1 z2 hsn hno;have hLa:(A7 sa).length=3:=rfl;have hLb:(A7 sb).length=3:=rfl;have hd:decide (i<b.2.1.length)=true:=zz2 (by omega);by_cases hk:sa.1=sb.1
   · rw[zz2 hk] at hsn;simp[h2,hd];refine AJ 13 (by kernel_rfl) ?_;simp[z1,z2,hLa,hLb,A7,hk,w2];exact Ae hI hS hμ (i+1) ⟨by omega,hsn⟩ (by omega) ⟨[0,1],by simp⟩
   · rw[hno (zz3 hk)] at hB;simp[h2,hd];refine AJ 13 (by kernel_rfl) ?_;simp[z1,z2,hLa,hLb,A7,hk,show (sa.1 != sb.1)=true by simpa using hk,hB]
 · obtain rfl:i=zs.length:=by omega
   rw[List.take_length] at hal;rw[hal] at hB;simp[h2,hzl,hB]
end Go.Proofs.Ytnjedabjbeipeaa
