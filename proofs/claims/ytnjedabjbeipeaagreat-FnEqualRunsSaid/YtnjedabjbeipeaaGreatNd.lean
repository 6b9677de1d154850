/-
  Valid graphs: both sides, by abstract walks.
  Conditions: those typed in each theorem.
-/
import Derived.Test.YtnjedabjbeipeaaGreatNb
namespace Go.Proofs.YtnjedabjbeipeaaGreat
open Go.RowKit Go.ChangeShapes Go.WideShapes
set_option linter.unusedSimpArgs false
set_option linter.unusedVariables false
set_option maxRecDepth 100000
set_option maxHeartbeats 10000000
def DI (n:Int) (a:Ai):Bool:=DX a.1 0 (2*n - 1)&&DX a.2 0 (2*n - 1)
def BU (f:Int):Nat→List Ai→Bool
 | _,[]=>true
 | k,x::xs=>DI (f+k) x&&BU f (k+1) xs
theorem Ji {f:Int}:∀ {xs:List Ai} {k j:Nat},BU f j xs=(BU f j (xs.take k)&&BU f (j+k) (xs.drop k))
 | [],k,j=>by simp[BU]
 | x::xs,0,j=>by simp[BU]
 | x::xs,k+1,j=>by
   simp only[List.take_succ_cons,List.drop_succ_cons,BU];rw[Ji (xs:=xs) (k:=k),Bool.and_assoc,show j+1+k=j+(k+1) by omega]
theorem Gg {f:Int} {xs:List Ai} {k:Nat} {x:Ai} (hx:xs[k]? = some x):BU f 0 (xs.take (k+1))=(BU f 0 (xs.take k)&&DI (f+k) x):=by
 rw[Ji (xs:=xs.take (k+1)) (k:=k),Bb hx];have hk:(xs.take k).length=k:=by have:=(BZ.1 hx).1;simp;omega
 rw[List.take_append_of_le_length (by omega),O6 (by omega),List.drop_append_of_le_length (by omega),List.drop_of_length_le (by omega)];simp[BU]
theorem KI {f:Int} {xs:List Ai} {k:Nat} {x:Ai} (hx:xs[k]? = some x) (h:DI (f+k) x=false):BU f 0 xs=false:=by
 rw[Ji (k:=k+1),Gg hx,h];simp
def Al (x:AK):Bool:=decide (Bz x≠0)&&x.2.1.all Bx&&JE (Ay x) (2*Bz x)&&BU (1+x.1+x.2.1.length) 0 x.2.2.1
def Kz (x:AK):Prop:=(∀ y∈x.2.2.2,J0 y)∧(∀ s∈x.2.1,J0 s.1∧J0 s.2.1∧∀ y∈s.2.2,J0 y)∧(∀ a∈x.2.2.1,J0 a.1∧J0 a.2)∧J0 x.1
theorem XW {x:AK} (h:Kz x):∀ y∈Ay x,J0 y:=by
 intro y hy;rcases CO.1 hy with hy|hy
 · exact h.1 y hy
 · obtain⟨l,hl,hy⟩:=List.mem_flatten.1 hy;obtain⟨s,hs,rfl⟩:=CE.1 hl;exact (h.2.1 s hs).2.2 y hy
theorem Jt (x:AK) (hx:CF 1048576 x):BA Tryz.prog 25 [GD x] (.d (.bool (Al x))):=by
 have hx':=hx;obtain⟨f1,f2,f3,f5⟩:=hx';refine A6 (by kernel_rfl) Tryz.func25 rfl rfl rfl ?_;simp[Ao];refine Ab (Rt x) ?_;simp;refine⟨fun h=>by simp[Al,h],fun hn=>?_⟩;obtain⟨n1,n2,n3,n4,n5,n6⟩:=LV hn;refine AB [false,true,false,true,false,false,false,false,false,false,false,false,false,false,false,false,true,true,true] (fun k:Nat=>k≤x.2.1.length∧(x.2.1.take k).all Bx=true) (fun k:Nat=>[(18,.d (.int .i64 k))]) (fun k:Nat=>[]) (fun k:Nat=>x.2.1.length - k) 0 ?_ ?_ ?_
 · exact⟨by simp,rfl⟩
 · exact⟨[0],by simp⟩
 rintro I S μ hI hS hμ k ⟨hk,ha⟩;by_cases hlt:k<x.2.1.length
 · have hx1:x.2.1[k]? = some x.2.1[k]:=A1 hlt;have hL:(AY x.2.1[k]).length=3:=rfl;have w2:IntKind.i64.wrap ((k:Int)+1)=(k:Int)+1:=Ad (by omega) (by omega);generalize x.2.1[k]=s at *;have hd:decide (k<x.2.1.length)=true:=A8 hlt;simp[hd,hx1,hL,AY];refine Ab (eE s) ?_;simp;rcases Ep (Bx s) with h1|h1
   case inr=>simp[h1,Al,E5 (p:=Bx) hx1 h1]
   simp[h1,w2];exact Ae hI hS hμ (k+1) ⟨by omega,by rw[De hx1,ha,h1];rfl⟩ (by omega) ⟨[0],by simp⟩
 have hk':k=x.2.1.length:=by omega
 rw[hk',List.take_length] at ha;simp[hlt];refine Ab (Jz x hx n3) ?_;simp;have hrl:=Gr (x:=x) (k:=x.2.1.length) (M:=1048576) f2;rw[Gi] at hrl;generalize hR:Ay x=R at *;refine AB [false,true,false,true,false,false,false,false,false,false,false,false,false,false,false,false,false,false,false,false,false,false,false,false,false,false,false,true,true,true] (fun k:Nat=>k≤R.length∧(R.take k).all (fun y=>DX y 0 (2*Bz x - 1))=true) (fun k:Nat=>[(29,.d (.int .i64 k))]) (fun k:Nat=>[]) (fun k:Nat=>R.length - k) 0 ?_ ?_ ?_
 · exact⟨by simp,rfl⟩
 · exact⟨[0,1],by simp⟩
 clear hI hS hμ;rintro I S μ hI hS hμ k ⟨hk,hb⟩;by_cases hlt:k<R.length
 · have hx1:R[k]? = some R[k]:=A1 hlt;have w2:IntKind.i64.wrap ((k:Int)+1)=(k:Int)+1:=Ad (by omega) (by omega);have w3:IntKind.i64.wrap (2*Bz x)=2*Bz x:=Ad (by omega) (by omega);have w4:IntKind.i64.wrap (2*Bz x - 1)=2*Bz x - 1:=Ad (by omega) (by omega);generalize R[k]=y at *;have hd:decide (k<R.length)=true:=A8 hlt;simp[hd,hx1,w3,w4];refine Ab (Fl _ _ _) ?_;simp;rcases Ep (DX y 0 (2*Bz x - 1)) with h1|h1
   case inr=>simp[h1,Al,JE,hR,E5 (p:=fun y=>DX y 0 (2*Bz x - 1)) hx1 h1]
   simp[h1,w2];exact Ae hI hS hμ (k+1) ⟨by omega,by rw[De hx1,hb,h1];rfl⟩ (by omega) ⟨[0,1],by simp⟩
 have hk':k=R.length:=by omega
 rw[hk',List.take_length] at hb;have hbB:JE R (2*Bz x)=true:=hb;simp[hlt];refine AB [false,true,false,false,false,false,false,false,false,false,false,false,false,false,false,false,false,false,false,false,false,false,false,false,false,false,false,false,false,false,false,false,false,false,false,false,false,false,false,false,false,true,true,true] (fun k:Nat=>k≤x.2.2.1.length∧BU (1+x.1+x.2.1.length) 0 (x.2.2.1.take k)=true) (fun k:Nat=>[(43,.d (.int .i64 k))]) (fun k:Nat=>[]) (fun k:Nat=>x.2.2.1.length - k) 0 ?_ ?_ ?_
 · exact⟨by simp,rfl⟩
 · exact⟨[0,1],by simp⟩
 clear hI hS hμ;rintro I S μ hI hS hμ k ⟨hk,hc⟩;by_cases hlt:k<x.2.2.1.length
 · have hx1:x.2.2.1[k]? = some x.2.2.1[k]:=A1 hlt;have hL:(At x.2.2.1[k]).length=2:=rfl;have w2:IntKind.i64.wrap ((k:Int)+1)=(k:Int)+1:=Ad (by omega) (by omega);have w3:IntKind.i64.wrap (1+x.1+x.2.1.length+k)=1+x.1+x.2.1.length+k:=Ad (by omega) (by omega);have w4:IntKind.i64.wrap (2*(1+x.1+x.2.1.length+k))=2*(1+x.1+x.2.1.length+k):=Ad (by omega) (by omega);have w5:IntKind.i64.wrap (2*(1+x.1+x.2.1.length+k) - 1)=2*(1+x.1+x.2.1.length+k) - 1:=Ad (by omega) (by omega);generalize x.2.2.1[k]=s at *;have hz:DI (1+x.1+x.2.1.length+k) s=false→BU (1+x.1+x.2.1.length) 0 x.2.2.1=false:=KI hx1;have hd:decide (k<x.2.2.1.length)=true:=A8 hlt;simp[hd,hx1,hL,At];refine Ab (BL x ⟨n1,n2⟩ n3) ?_;simp[w3,w4,w5];refine Ab (Fl _ _ _) ?_;simp;rcases Ep (DX s.1 0 (2*(1+x.1+x.2.1.length+k) - 1)) with h1|h1
   case inr=>simp[h1,Al,hz (by simp[DI,h1])]
   simp[h1];refine Ab (Fl _ _ _) ?_;simp;rcases Ep (DX s.2 0 (2*(1+x.1+x.2.1.length+k) - 1)) with h2|h2
   case inr=>simp[h2,Al,hz (by simp[DI,h2])]
   simp[h2,w2];exact Ae hI hS hμ (k+1) ⟨by omega,by rw[Gg hx1,hc];simp[DI,h1,h2]⟩ (by omega) ⟨[0,1],by simp⟩
 · have hk':k=x.2.2.1.length:=by omega
   rw[hk',List.take_length] at hc;simp[hlt,Al,ha,hR,hbB,hc,hn]
theorem Cr (x:AK) (hx:CF 1048576 x) (hg:Kz x):BA Tryz.prog 24 [GD x] (.d (.bool (Al x))):=by
 have hx':=hx;obtain⟨f1,f2,f3,f5⟩:=hx';refine A6 (by kernel_rfl) Tryz.func24 rfl rfl rfl ?_;simp[Ao];refine Ab (Bw x) ?_;simp;refine⟨fun h=>by simp[Al,h],fun hn=>?_⟩;obtain⟨n1,n2,n3,n4,n5,n6⟩:=LV hn;refine AB [false,true,false,true,true] (fun k:Nat=>k≤x.2.1.length∧(x.2.1.take k).all Bx=true) (fun k:Nat=>[(4,.d (.int .i64 k))]) (fun k:Nat=>[]) (fun k:Nat=>x.2.1.length - k) 0 ?_ ?_ ?_
 · exact⟨by simp,rfl⟩
 · exact⟨[0],by simp⟩
 rintro I S μ hI hS hμ k ⟨hk,ha⟩;by_cases hlt:k<x.2.1.length
 · have hx1:x.2.1[k]? = some x.2.1[k]:=A1 hlt;have hL:(AY x.2.1[k]).length=3:=rfl;have w2:IntKind.i64.wrap ((k:Int)+1)=(k:Int)+1:=Ad (by omega) (by omega);generalize x.2.1[k]=s at *;have hd:decide (k<x.2.1.length)=true:=A8 hlt;have hno:Bx s=false→Al x=false:=fun h=>by simp[Al,E5 (p:=Bx) hx1 h]
   have fin:Bx s=true→(x.2.1.take (k+1)).all Bx=true:=fun h1=>by rw[De hx1,ha,h1];rfl
   simp[hd,hx1,hL,AY];by_cases h0:s.1=0
   · have h0':(s.1==0)=true:=by simp[h0]
     have h01:(s.1==1)=false:=by simp[h0]
     simp[h0'];refine Ab (EX _ _ _) ?_;simp;rcases Ep (DX s.2.1 0 1) with h|h
     · by_cases h3:s.2.2.length=1
       · have h1:Bx s=true:=by simp[Bx,h0,h,h3]
         have h3':((s.2.2.length:Int)==1)=true:=by simp[h3]
         simp[h,h3',h3,w2];exact Ae hI hS hμ (k+1) ⟨by omega,fin h1⟩ (by omega) ⟨[0],by simp⟩
       · have h1:Bx s=false:=by simp[Bx,h0,h,h3]
         have h3':((s.2.2.length:Int)==1)=false:=by simp;omega
         simp[h,h3',h3,h01,h0,hno h1]
     · have h1:Bx s=false:=by simp[Bx,h0,h]
       simp[h,h01,h0,hno h1]
   have h0':(s.1==0)=false:=by simpa using h0
   by_cases h1':s.1=1
   · have h01:(s.1==1)=true:=by simp[h1']
     simp[h0',h01];refine Ab (EX _ _ _) ?_;simp;rcases Ep (DX s.2.1 0 31) with h|h
     · by_cases h3:s.2.2.length=4
       · have h1:Bx s=true:=by simp[Bx,h1',h,h3]
         have h3':((s.2.2.length:Int)==4)=true:=by simp[h3]
         simp[h,h3',h3,w2];exact Ae hI hS hμ (k+1) ⟨by omega,fin h1⟩ (by omega) ⟨[0],by simp⟩
       · have h1:Bx s=false:=by simp[Bx,h1',h,h3]
         have h3':((s.2.2.length:Int)==4)=false:=by simp;omega
         simp[h,h3',h3,show ¬ (s.2.2.length:Int)=4 by omega,hno h1]
     · have h1:Bx s=false:=by simp[Bx,h1',h]
       simp[h,hno h1]
   · have h01:(s.1==1)=false:=by simpa using h1'
     have h1:Bx s=false:=by simp[Bx,h0,h1']
     simp[h0',h01,hno h1]
 have hk':k=x.2.1.length:=by omega
 rw[hk',List.take_length] at ha;simp[hlt];refine Ab (JC x hx n3) ?_;simp;have hrl:=Gr (x:=x) (k:=x.2.1.length) (M:=1048576) f2;rw[Gi] at hrl;have hri:=XW hg;generalize hR:Ay x=R at *;refine AB [false,true,false,true,false,false,true,true] (fun k:Nat=>k≤R.length∧(R.take k).all (fun y=>DX y 0 (2*Bz x - 1))=true) (fun k:Nat=>[(7,.d (.int .i64 k))]) (fun k:Nat=>[]) (fun k:Nat=>R.length - k) 0 ?_ ?_ ?_
 · exact⟨by simp,rfl⟩
 · exact⟨[0,1],by simp⟩
 clear hI hS hμ;rintro I S μ hI hS hμ k ⟨hk,hb⟩;by_cases hlt:k<R.length
 · have hx1:R[k]? = some R[k]:=A1 hlt;have w2:IntKind.i64.wrap ((k:Int)+1)=(k:Int)+1:=Ad (by omega) (by omega);have hy:=hri _ (Dv hlt);generalize R[k]=y at *;have hd:decide (k<R.length)=true:=A8 hlt;simp[hd,hx1];refine Ab (H7 y (Bz x) hy (by omega)) ?_;simp;rcases Ep (DX y 0 (2*Bz x - 1)) with h1|h1
   case inr=>simp[h1,Al,JE,hR,E5 (p:=fun y=>DX y 0 (2*Bz x - 1)) hx1 h1]
   simp[h1,w2];exact Ae hI hS hμ (k+1) ⟨by omega,by rw[De hx1,hb,h1];rfl⟩ (by omega) ⟨[0,1],by simp⟩
 have hk':k=R.length:=by omega
 rw[hk',List.take_length] at hb;have hbB:JE R (2*Bz x)=true:=hb;simp[hlt];refine AB [false,true,false,false,false,false,false,false,true] (fun k:Nat=>k≤x.2.2.1.length∧BU (1+x.1+x.2.1.length) 0 (x.2.2.1.take k)=true) (fun k:Nat=>[(8,.d (.int .i64 k))]) (fun k:Nat=>[]) (fun k:Nat=>x.2.2.1.length - k) 0 ?_ ?_ ?_
 · exact⟨by simp,rfl⟩
 · exact⟨[0,1],by simp⟩
 clear hI hS hμ;rintro I S μ hI hS hμ k ⟨hk,hc⟩;by_cases hlt:k<x.2.2.1.length
 · have hx1:x.2.2.1[k]? = some x.2.2.1[k]:=A1 hlt;have hL:(At x.2.2.1[k]).length=2:=rfl;have w2:IntKind.i64.wrap ((k:Int)+1)=(k:Int)+1:=Ad (by omega) (by omega);have w3:IntKind.i64.wrap (1+x.1+x.2.1.length+k)=1+x.1+x.2.1.length+k:=Ad (by omega) (by omega);have hy:=hg.2.2.1 _ (Dv hlt);generalize x.2.2.1[k]=s at *;have hz:DI (1+x.1+x.2.1.length+k) s=false→BU (1+x.1+x.2.1.length) 0 x.2.2.1=false:=KI hx1;have hd:decide (k<x.2.2.1.length)=true:=A8 hlt;simp[hd,hx1,hL,At];refine⟨by kernel_rfl,?_⟩;refine Ab (BJ x ⟨n1,n2⟩ n3) ?_;simp[w3];refine Ab (H7 s.1 _ hy.1 (by omega)) ?_;simp;rcases Ep (DX s.1 0 (2*(1+x.1+x.2.1.length+k) - 1)) with h1|h1
   case inr=>simp[h1,Al,hz (by simp[DI,h1])]
   simp[h1,hx1,hL,At];refine Ab (BJ x ⟨n1,n2⟩ n3) ?_;simp[w3];refine Ab (H7 s.2 _ hy.2 (by omega)) ?_;simp;rcases Ep (DX s.2 0 (2*(1+x.1+x.2.1.length+k) - 1)) with h2|h2
   case inr=>simp[h2,Al,hz (by simp[DI,h2])]
   simp[h2,w2];exact Ae hI hS hμ (k+1) ⟨by omega,by rw[Gg hx1,hc];simp[DI,h1,h2]⟩ (by omega) ⟨[0,1],by simp⟩
 · have hk':k=x.2.2.1.length:=by omega
   rw[hk',List.take_length] at hc;simp[hlt,Al,ha,hR,hbB,hc,hn]
end Go.Proofs.YtnjedabjbeipeaaGreat
