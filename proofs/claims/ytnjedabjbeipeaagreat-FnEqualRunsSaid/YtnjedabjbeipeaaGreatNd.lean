/-
  Valid graphs: both sides, by abstract walks.
  Conditions: those typed in each theorem.
-/
import Derived.Test.YtnjedabjbeipeaaGreatNb
namespace Go.Proofs.YtnjedabjbeipeaaGreat
open Go.RowKit Go.ChangeShapes Go.WideShapes
set_option linter.unusedSimpArgs false
set_option linter.unusedVariables false
set_option maxRecDepth 100000
set_option maxHeartbeats 10000000
def Dv (n:Int) (a:Ai):Bool:=DM a.1 0 (2*n - 1)&&DM a.2 0 (2*n - 1)
def BR (f:Int):Nat→List Ai→Bool
 | _,[]=>true
 | k,x::xs=>Dv (f+k) x&&BR f (k+1) xs
theorem IQ {f:Int}:∀ {xs:List Ai} {k j:Nat},BR f j xs=(BR f j (xs.take k)&&BR f (j+k) (xs.drop k))
 | [],k,j=>by simp[BR]
 | x::xs,0,j=>by simp[BR]
 | x::xs,k+1,j=>by
   simp only[List.take_succ_cons,List.drop_succ_cons,BR];rw[IQ (xs:=xs) (k:=k),Bool.and_assoc,show j+1+k=j+(k+1) by omega]
theorem F0 {f:Int} {xs:List Ai} {k:Nat} {x:Ai} (hx:xs[k]? = some x):BR f 0 (xs.take (k+1))=(BR f 0 (xs.take k)&&Dv (f+k) x):=by
 rw[IQ (xs:=xs.take (k+1)) (k:=k),Ba hx];have hk:(xs.take k).length=k:=by have:=(zz1.1 hx).1;simp;omega
 rw[List.take_append_of_le_length (by omega),AB8 (by omega),List.drop_append_of_le_length (by omega),List.drop_of_length_le (by omega)];simp[BR]
theorem Jz {f:Int} {xs:List Ai} {k:Nat} {x:Ai} (hx:xs[k]? = some x) (h:Dv (f+k) x=false):BR f 0 xs=false:=by
 rw[IQ (k:=k+1),F0 hx,h];simp
def Al (x:AK):Bool:=decide (Bw x≠0)&&x.2.1.all Bz&&IB (Ay x) (2*Bw x)&&BR (1+x.1+x.2.1.length) 0 x.2.2.1
def JO (x:AK):Prop:=(∀ y∈x.2.2.2,Jy y)∧(∀ s∈x.2.1,Jy s.1∧Jy s.2.1∧∀ y∈s.2.2,Jy y)∧(∀ a∈x.2.2.1,Jy a.1∧Jy a.2)∧Jy x.1
theorem Yj {x:AK} (h:JO x):∀ y∈Ay x,Jy y:=by
 intro y hy;rcases ACB.1 hy with hy|hy
 · exact h.1 y hy
 · obtain⟨l,hl,hy⟩:=List.mem_flatten.1 hy;obtain⟨s,hs,rfl⟩:=ABc.1 hl;exact (h.2.1 s hs).2.2 y hy
theorem IK (x:AK) (hx:Cz 1048576 x):Bx Tryz.prog 25 [Ge x] (.d (.bool (Al x))):=by
 have hx':=hx;obtain⟨f1,f2,f3,f5⟩:=hx';refine A5 (by kernel_rfl) Tryz.func25 rfl rfl rfl ?_;simp[Ao];refine Ab (PG x) ?_;simp;refine⟨fun h=>by simp[Al,h],fun hn=>?_⟩;obtain⟨n1,n2,n3,n4,n5,n6⟩:=Lp hn;refine AB [false,true,false,true,false,false,false,false,false,false,false,false,false,false,false,false,true,true,true] (fun k:Nat=>k≤x.2.1.length∧(x.2.1.take k).all Bz=true) (fun k:Nat=>[(18,.d (.int .i64 k))]) (fun k:Nat=>[]) (fun k:Nat=>x.2.1.length - k) 0 ?_ ?_ ?_
 · exact⟨by simp,rfl⟩
 · exact⟨[0],by simp⟩
 rintro I S μ hI hS hμ k ⟨hk,ha⟩;by_cases hlt:k<x.2.1.length
 · have hx1:x.2.1[k]? = some x.2.1[k]:=zz0 hlt;have hL:(AY x.2.1[k]).length=3:=rfl;have w2:IntKind.i64.wrap ((k:Int)+1)=(k:Int)+1:=Ad (by omega) (by omega);generalize x.2.1[k]=s at *;have hd:decide (k<x.2.1.length)=true:=zz2 hlt;simp[hd,hx1,hL,AY];refine Ab (aG s) ?_;simp;rcases ABu (Bz s) with h1|h1
   case inr=>simp[h1,Al,EO (p:=Bz) hx1 h1]
   simp[h1,w2];exact Ae hI hS hμ (k+1) ⟨by omega,by rw[C6 hx1,ha,h1];rfl⟩ (by omega) ⟨[0],by simp⟩
 have hk':k=x.2.1.length:=by omega
 rw[hk',List.take_length] at ha;simp[hlt];refine Ab (Iy x hx n3) ?_;simp;have hrl:=FR (x:=x) (k:=x.2.1.length) (M:=1048576) f2;rw[FU] at hrl;generalize hR:Ay x=R at *;refine AB [false,true,false,true,false,false,false,false,false,false,false,false,false,false,false,false,false,false,false,false,false,false,false,false,false,false,false,true,true,true] (fun k:Nat=>k≤R.length∧(R.take k).all (fun y=>DM y 0 (2*Bw x - 1))=true) (fun k:Nat=>[(29,.d (.int .i64 k))]) (fun k:Nat=>[]) (fun k:Nat=>R.length - k) 0 ?_ ?_ ?_
 · exact⟨by simp,rfl⟩
 · exact⟨[0,1],by simp⟩
 clear hI hS hμ;rintro I S μ hI hS hμ k ⟨hk,hb⟩;by_cases hlt:k<R.length
 · have hx1:R[k]? = some R[k]:=zz0 hlt;have w2:IntKind.i64.wrap ((k:Int)+1)=(k:Int)+1:=Ad (by omega) (by omega);have w3:IntKind.i64.wrap (2*Bw x)=2*Bw x:=Ad (by omega) (by omega);have w4:IntKind.i64.wrap (2*Bw x - 1)=2*Bw x - 1:=Ad (by omega) (by omega);generalize R[k]=y at *;have hd:decide (k<R.length)=true:=zz2 hlt;simp[hd,hx1,w3,w4];refine Ab (E8 _ _ _) ?_;simp;rcases ABu (DM y 0 (2*Bw x - 1)) with h1|h1
   case inr=>simp[h1,Al,IB,hR,EO (p:=fun y=>DM y 0 (2*Bw x - 1)) hx1 h1]
   simp[h1,w2];exact Ae hI hS hμ (k+1) ⟨by omega,by rw[C6 hx1,hb,h1];rfl⟩ (by omega) ⟨[0,1],by simp⟩
 have hk':k=R.length:=by omega
 rw[hk',List.take_length] at hb;have hbB:IB R (2*Bw x)=true:=hb;simp[hlt];refine AB [false,true,false,false,false,false,false,false,false,false,false,false,false,false,false,false,false,false,false,false,false,false,false,false,false,false,false,false,false,false,false,false,false,false,false,false,false,false,false,false,false,true,true,true] (fun k:Nat=>k≤x.2.2.1.length∧BR (1+x.1+x.2.1.length) 0 (x.2.2.1.take k)=true) (fun k:Nat=>[(43,.d (.int .i64 k))]) (fun k:Nat=>[]) (fun k:Nat=>x.2.2.1.length - k) 0 ?_ ?_ ?_
 · exact⟨by simp,rfl⟩
 · exact⟨[0,1],by simp⟩
 clear hI hS hμ;rintro I S μ hI hS hμ k ⟨hk,hc⟩;by_cases hlt:k<x.2.2.1.length
 · have hx1:x.2.2.1[k]? = some x.2.2.1[k]:=zz0 hlt;have hL:(At x.2.2.1[k]).length=2:=rfl;have w2:IntKind.i64.wrap ((k:Int)+1)=(k:Int)+1:=Ad (by omega) (by omega);have w3:IntKind.i64.wrap (1+x.1+x.2.1.length+k)=1+x.1+x.2.1.length+k:=Ad (by omega) (by omega);have w4:IntKind.i64.wrap (2*(1+x.1+x.2.1.length+k))=2*(1+x.1+x.2.1.length+k):=Ad (by omega) (by omega);have w5:IntKind.i64.wrap (2*(1+x.1+x.2.1.length+k) - 1)=2*(1+x.1+x.2.1.length+k) - 1:=Ad (by omega) (by omega);generalize x.2.2.1[k]=s at *;have hz:Dv (1+x.1+x.2.1.length+k) s=false→BR (1+x.1+x.2.1.length) 0 x.2.2.1=false:=Jz hx1;have hd:decide (k<x.2.2.1.length)=true:=zz2 hlt;simp[hd,hx1,hL,At];refine Ab (BF x ⟨n1,n2⟩ n3) ?_;simp[w3,w4,w5];refine Ab (E8 _ _ _) ?_;simp;rcases ABu (DM s.1 0 (2*(1+x.1+x.2.1.length+k) - 1)) with h1|h1
   case inr=>simp[h1,Al,hz (by simp[Dv,h1])]
   simp[h1];refine Ab (E8 _ _ _) ?_;simp;rcases ABu (DM s.2 0 (2*(1+x.1+x.2.1.length+k) - 1)) with h2|h2
   case inr=>simp[h2,Al,hz (by simp[Dv,h2])]
   simp[h2,w2];exact Ae hI hS hμ (k+1) ⟨by omega,by rw[F0 hx1,hc];simp[Dv,h1,h2]⟩ (by omega) ⟨[0,1],by simp⟩
 · have hk':k=x.2.2.1.length:=by omega
   rw[hk',List.take_length] at hc;simp[hlt,Al,ha,hR,hbB,hc,hn]
theorem Co (x:AK) (hx:Cz 1048576 x) (hg:JO x):Bx Tryz.prog 24 [Ge x] (.d (.bool (Al x))):=by
 have hx':=hx;obtain⟨f1,f2,f3,f5⟩:=hx';refine A5 (by kernel_rfl) Tryz.func24 rfl rfl rfl ?_;simp[Ao];refine Ab (Bt x) ?_;simp;refine⟨fun h=>by simp[Al,h],fun hn=>?_⟩;obtain⟨n1,n2,n3,n4,n5,n6⟩:=Lp hn;refine AB [false,true,false,true,true] (fun k:Nat=>k≤x.2.1.length∧(x.2.1.take k).all Bz=true) (fun k:Nat=>[(4,.d (.int .i64 k))]) (fun k:Nat=>[]) (fun k:Nat=>x.2.1.length - k) 0 ?_ ?_ ?_
 · exact⟨by simp,rfl⟩
 · exact⟨[0],by simp⟩
 rintro I S μ hI hS hμ k ⟨hk,ha⟩;by_cases hlt:k<x.2.1.length
 · have hx1:x.2.1[k]? = some x.2.1[k]:=zz0 hlt;have hL:(AY x.2.1[k]).length=3:=rfl;have w2:IntKind.i64.wrap ((k:Int)+1)=(k:Int)+1:=Ad (by omega) (by omega);generalize x.2.1[k]=s at *;have hd:decide (k<x.2.1.length)=true:=zz2 hlt;have hno:Bz s=false→Al x=false:=fun h=>by simp[Al,EO (p:=Bz) hx1 h]
   have fin:Bz s=true→(x.2.1.take (k+1)).all Bz=true:=fun h1=>by rw[C6 hx1,ha,h1];rfl
   simp[hd,hx1,hL,AY];by_cases h0:s.1=0
   · have h0':(s.1==0)=true:=by simp[h0]
     have h01:(s.1==1)=false:=by simp[h0]
     simp[h0'];refine Ab (EN _ _ _) ?_;simp;rcases ABu (DM s.2.1 0 1) with h|h
     · by_cases h3:s.2.2.length=1
       · have h1:Bz s=true:=by simp[Bz,h0,h,h3]
         have h3':((s.2.2.length:Int)==1)=true:=by simp[h3]
         simp[h,h3',h3,w2];exact Ae hI hS hμ (k+1) ⟨by omega,fin h1⟩ (by omega) ⟨[0],by simp⟩
       · have h1:Bz s=false:=by simp[Bz,h0,h,h3]
         have h3':((s.2.2.length:Int)==1)=false:=by simp;omega
         simp[h,h3',h3,h01,h0,hno h1]
     · have h1:Bz s=false:=by simp[Bz,h0,h]
       simp[h,h01,h0,hno h1]
   have h0':(s.1==0)=false:=by simpa using h0
   by_cases h1':s.1=1
   · have h01:(s.1==1)=true:=by simp[h1']
     simp[h0',h01];refine Ab (EN _ _ _) ?_;simp;rcases ABu (DM s.2.1 0 31) with h|h
     · by_cases h3:s.2.2.length=4
       · have h1:Bz s=true:=by simp[Bz,h1',h,h3]
         have h3':((s.2.2.length:Int)==4)=true:=by simp[h3]
         simp[h,h3',h3,w2];exact Ae hI hS hμ (k+1) ⟨by omega,fin h1⟩ (by omega) ⟨[0],by simp⟩
       · have h1:Bz s=false:=by simp[Bz,h1',h,h3]
         have h3':((s.2.2.length:Int)==4)=false:=by simp;omega
         simp[h,h3',h3,show ¬ (s.2.2.length:Int)=4 by omega,hno h1]
     · have h1:Bz s=false:=by simp[Bz,h1',h]
       simp[h,hno h1]
   · have h01:(s.1==1)=false:=by simpa using h1'
     have h1:Bz s=false:=by simp[Bz,h0,h1']
     simp[h0',h01,hno h1]
 have hk':k=x.2.1.length:=by omega
 rw[hk',List.take_length] at ha;simp[hlt];refine Ab (Jl x hx n3) ?_;simp;have hrl:=FR (x:=x) (k:=x.2.1.length) (M:=1048576) f2;rw[FU] at hrl;have hri:=Yj hg;generalize hR:Ay x=R at *;refine AB [false,true,false,true,false,false,true,true] (fun k:Nat=>k≤R.length∧(R.take k).all (fun y=>DM y 0 (2*Bw x - 1))=true) (fun k:Nat=>[(7,.d (.int .i64 k))]) (fun k:Nat=>[]) (fun k:Nat=>R.length - k) 0 ?_ ?_ ?_
 · exact⟨by simp,rfl⟩
 · exact⟨[0,1],by simp⟩
 clear hI hS hμ;rintro I S μ hI hS hμ k ⟨hk,hb⟩;by_cases hlt:k<R.length
 · have hx1:R[k]? = some R[k]:=zz0 hlt;have w2:IntKind.i64.wrap ((k:Int)+1)=(k:Int)+1:=Ad (by omega) (by omega);have hy:=hri _ (ABt hlt);generalize R[k]=y at *;have hd:decide (k<R.length)=true:=zz2 hlt;simp[hd,hx1];refine Ab (Hl y (Bw x) hy (by omega)) ?_;simp;rcases ABu (DM y 0 (2*Bw x - 1)) with h1|h1
   case inr=>simp[h1,Al,IB,hR,EO (p:=fun y=>DM y 0 (2*Bw x - 1)) hx1 h1]
   simp[h1,w2];exact Ae hI hS hμ (k+1) ⟨by omega,by rw[C6 hx1,hb,h1];rfl⟩ (by omega) ⟨[0,1],by simp⟩
 have hk':k=R.length:=by omega
 rw[hk',List.take_length] at hb;have hbB:IB R (2*Bw x)=true:=hb;simp[hlt];refine AB [false,true,false,false,false,false,false,false,true] (fun k:Nat=>k≤x.2.2.1.length∧BR (1+x.1+x.2.1.length) 0 (x.2.2.1.take k)=true) (fun k:Nat=>[(8,.d (.int .i64 k))]) (fun k:Nat=>[]) (fun k:Nat=>x.2.2.1.length - k) 0 ?_ ?_ ?_
 · exact⟨by simp,rfl⟩
 · exact⟨[0,1],by simp⟩
 clear hI hS hμ;rintro I S μ hI hS hμ k ⟨hk,hc⟩;by_cases hlt:k<x.2.2.1.length
 · have hx1:x.2.2.1[k]? = some x.2.2.1[k]:=zz0 hlt;have hL:(At x.2.2.1[k]).length=2:=rfl;have w2:IntKind.i64.wrap ((k:Int)+1)=(k:Int)+1:=Ad (by omega) (by omega);have w3:IntKind.i64.wrap (1+x.1+x.2.1.length+k)=1+x.1+x.2.1.length+k:=Ad (by omega) (by omega);have hy:=hg.2.2.1 _ (ABt hlt);generalize x.2.2.1[k]=s at *;have hz:Dv (1+x.1+x.2.1.length+k) s=false→BR (1+x.1+x.2.1.length) 0 x.2.2.1=false:=Jz hx1;have hd:decide (k<x.2.2.1.length)=true:=zz2 hlt;simp[hd,hx1,hL,At];refine⟨by kernel_rfl,?_⟩;refine Ab (BE x ⟨n1,n2⟩ n3) ?_;simp[w3];refine Ab (Hl s.1 _ hy.1 (by omega)) ?_;simp;rcases ABu (DM s.1 0 (2*(1+x.1+x.2.1.length+k) - 1)) with h1|h1
   case inr=>simp[h1,Al,hz (by simp[Dv,h1])]
   simp[h1,hx1,hL,At];refine Ab (BE x ⟨n1,n2⟩ n3) ?_;simp[w3];refine Ab (Hl s.2 _ hy.2 (by omega)) ?_;simp;rcases ABu (DM s.2 0 (2*(1+x.1+x.2.1.length+k) - 1)) with h2|h2
   case inr=>simp[h2,Al,hz (by simp[Dv,h2])]
   simp[h2,w2];exact Ae hI hS hμ (k+1) ⟨by omega,by rw[F0 hx1,hc];simp[Dv,h1,h2]⟩ (by omega) ⟨[0,1],by simp⟩
 · have hk':k=x.2.2.1.length:=by omega
   rw[hk',List.take_length] at hc;simp[hlt,Al,ha,hR,hbB,hc,hn]
end Go.Proofs.YtnjedabjbeipeaaGreat
