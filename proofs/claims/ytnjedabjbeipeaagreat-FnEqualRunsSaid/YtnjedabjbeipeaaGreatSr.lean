/-
  From the laws' arguments to graphs and links.
  Conditions: those typed in each theorem.
-/
import Derived.Test.YtnjedabjbeipeaaGreatRa
namespace Go.Proofs.YtnjedabjbeipeaaGreat
open Go.RowKit Go.ChangeShapes Go.WideShapes Go.ChangeAt
set_option linter.unusedSimpArgs false
set_option linter.unusedVariables false
set_option maxRecDepth 100000
set_option maxHeartbeats 10000000
theorem Uu.sl_of {α:Type} {t:TypeId} {en:α→List D} {xs:List α} (h:Uu (Dh t en xs)):∀ x∈xs,∀ q∈en x,Uu q:=by
 intro x hx q hq
 cases h with
 | sl _ _ h=>exact h _ (List.mem_map_of_mem hx) q hq
theorem Uu.ints {xs:List Int} {t:TypeId} (h:Uu (Dh t (e1 AC) xs)):∀ y∈xs,Jy y:=fun y hy=>Uu.i64 (Uu.sl_of h y hy (AC y) (by simp[e1]))
abbrev nI (v:Nat):Int:=v
def tdD (t:List Nat):List (List D):=(t.map nI).map (e1 AC)
@[simp] theorem AAm {t:List Nat}:(tdD t).length=t.length:=by simp[tdD]
@[simp] theorem AA1:tdD []=[]:=rfl
def yW (vals:List Int) (p:Cr×Int):Int:=EW p.1.1 p.2 (G0 (p.1.2.2.map (Bc vals)))
def LF (x:AK) (st vals:List Int):List Int:=(x.2.1.zip st).map (yW vals)
def cA (x:AK) (vals:List Int):Int:=G0 (x.2.2.2.map (Bc vals))
def JX (x:AK) (st:List Int) (inp:Int):List Int×Int:=(LF x st (BS x st inp),cA x (BS x st inp))
theorem Oj {x:AK} {vals:List Int} (h:∀ y∈Ay x,0≤y∧y<2*(A0 x:Int)) (hl:vals.length=A0 x):Xr vals x.2.2.2:=fun y hy=>by
 rw[hl];exact h y (ACB.2 (.inl hy))
theorem Xo {x:AK} {vals:List Int} (h:∀ y∈Ay x,0≤y∧y<2*(A0 x:Int)) (hl:vals.length=A0 x) {s:Cr} (hs:s∈x.2.1):Xr vals s.2.2:=fun y hy=>by
 rw[hl];exact h y (ACB.2 (.inr (List.mem_flatten.2 ⟨s.2.2,List.mem_map_of_mem hs,hy⟩)))
theorem VI (x:AK) (st:List Int) (inp:Int) (hx:Cz 1048576 x) (hok:Al x=true) (hs:st.length=x.2.1.length):Bx Tryz.prog 27 [Ge x,ints st,.d (.int .i64 inp)] (.tup [ints (JX x st inp).1,.d (.int .i64 (JX x st inp).2)]):=by
 obtain⟨⟨n1,n2,n3,n4,n5,n6⟩,o1,o2,o3⟩:=AA hok;have hN:A0 x=1+x.1.toNat+x.2.1.length+x.2.2.1.length:=rfl;show Bx Tryz.prog 27 [Ge x,ints st,.d (.int .i64 inp)] (.tup [ints (LF x st (BS x st inp)),.d (.int .i64 (cA x (BS x st inp)))]);refine A5 (by kernel_rfl) Tryz.func27 rfl rfl rfl ?_;simp[Ao];refine Ab (Px x st inp hx hok hs) ?_;simp;have hvl:(BS x st inp).length=A0 x:=KD;have hvb:CX (BS x st inp):=Jk;generalize BS x st inp=vals at *;have hsl:LF x st vals=(LF x st vals).take x.2.1.length:=by rw[AB8 (by simp[LF];omega)]
 rw[hsl];refine AH [false,true,false,true,false,false,false,false,true,true,false,false,false,false,false,false,false,true,true,true] (fun k:Nat=>k≤x.2.1.length) (fun k:Nat=>[(9,C7 k 2),(19,.d (.int .i64 k))]) (fun k:Nat=>C8 k ((LF x st vals).take k)) (fun k:Nat=>x.2.1.length - k) 0 ?_ ?_ ?_
 · simp
 · exact⟨[0,1],by simp[C7,C8]⟩
 rintro I S μ hI hS hμ k hk;by_cases hlt:k<x.2.1.length
 · have hx1:x.2.1[k]? = some x.2.1[k]:=zz0 hlt;have hx2:st[k]? = some (st[k]'(by omega)):=zz0 _;have hL:(AY x.2.1[k]).length=3:=rfl;have hzz:(x.2.1.zip st)[k]? = some (x.2.1[k],st[k]'(by omega)):=by simp[List.getElem?_zip_eq_some]
   have hnx:(LF x st vals).take (k+1)=(LF x st vals).take k++[yW vals (x.2.1[k],st[k]'(by omega))]:=Ba (by simp only[LF,ABz,hzz];rfl);have w2:IntKind.i64.wrap ((k:Int)+1)=(k:Int)+1:=Ad (by omega) (by omega);have hli:=Xo o2 hvl (ABt hlt);have hl4:=DE (o1 _ (ABt hlt));generalize x.2.1[k]=s at *;generalize st[k]'(by omega)=v at *;have hd:decide (k<x.2.1.length)=true:=zz2 hlt;have hd':decide (k<st.length)=true:=zz2 (by omega);have hf:EW s.1 v (G0 (s.2.2.map (Bc vals)))=yW vals (s,v):=rfl;by_cases hk0:k=0
   · subst hk0;have w20:IntKind.i64.wrap 1=1:=by decide
     simp[C7,C8,hd,hd',hx1,hx2,hL,AY];refine⟨by kernel_rfl,?_⟩;refine Ab (G4 vals s.2.2 hvb hli (by omega) (by omega)) ?_;simp;refine Ab (Mw _ _ _) ?_;simp[hf];refine Ak As rfl (by simp) rfl (by simp) (by simp) (by first | (simp;done)|(simp;omega)) (by simp[AR,AL]) ?_;simp[w20];exact Ae hI hS hμ 1 (by omega) (by omega) ⟨[0,1,4],by simp[C7,C8,hnx]⟩
   · simp[C7,C8,hd,hd',hx1,hx2,hL,AY,hk0];refine⟨by kernel_rfl,?_⟩;refine Ab (G4 vals s.2.2 hvb hli (by omega) (by omega)) ?_;simp;refine Ab (Mw _ _ _) ?_;simp[hf];refine Ak As rfl (by simp) rfl (by simp) (by simp) (by first | (simp;done)|(simp;omega)) (by simp[AR,AL]) ?_;simp[w2];exact Ae hI hS hμ (k+1) (by omega) (by omega) ⟨[0,1,5],by simp[C7,C8,hnx]⟩
 · have hk':k=x.2.1.length:=by omega
   subst hk';by_cases hk0:x.2.1.length=0
   · simp[C7,C8,hk0];refine Ab (G4 vals x.2.2.2 hvb (Oj o2 hvl) n5 (by omega)) ?_;simp[cA]
   · simp[C7,C8,hk0];refine Ab (G4 vals x.2.2.2 hvb (Oj o2 hvl) n5 (by omega)) ?_;simp[cA]
theorem SD {vs:List Int} (hb:CX vs) {i:Nat} {b:Int} (hi:vs[i]? = some b):∀ n,i<n→CT vs n / 2 ^ i % 2=b
 | 0,h=>by omega
 | n+1,h=>by
   have hv:=hb b (zz6 hi);have hp:(0:Int)<2 ^ i:=Int.pow_pos (by omega);by_cases e:i=n
   · subst e;have hl:=JI hb i;unfold CT;rw[hi,Option.getD_some,Int.add_mul_ediv_right _ _ (by omega),Int.ediv_eq_zero_of_lt hl.1 hl.2];omega
   · have ih:=SD hb hi n (by omega);obtain⟨d,hd⟩:∃ d,n=i+1+d:=⟨n - (i+1),by omega⟩
     have h2:(vs[n]?).getD 0*2 ^ n=((vs[n]?).getD 0*2 ^ d*2)*2 ^ i:=by
      rw[hd,Int.pow_add,Int.pow_succ];simp only[Int.mul_assoc,Int.mul_comm,Int.mul_left_comm]
     unfold CT;rw[h2,Int.add_mul_ediv_right _ _ (by omega)];omega
def Fc (x:AK) (ins:List Int):Nat→List Int
 | 0=>Cg x
 | k+1=>(JX x (Fc x ins k) ((ins[k]?).getD 0)).1
def OY (x:AK) (ins:List Int) (k:Nat):Int:=(JX x (Fc x ins k) ((ins[k]?).getD 0)).2
def D2 (x:AK) (ins:List Int) (k:Nat):List Int:=(List.range k).map (OY x ins)
def Fk (x:AK) (ins:List Int):List Int:=if Al x=true∧ins.length≤16 then D2 x ins ins.length else []
theorem Rw {x:AK} {ins:List Int} {k:Nat}:D2 x ins (k+1)=D2 x ins k++[OY x ins k]:=by simp[D2,List.range_succ]
theorem LX {x:AK} {ins:List Int} {k:Nat}:(D2 x ins k).length=k:=by simp[D2]
theorem cV {x:AK} {st vals:List Int} (hl:st.length=x.2.1.length):(LF x st vals).length=x.2.1.length:=by simp[LF];omega
theorem IW {x:AK} {ins:List Int}:∀ k,(Fc x ins k).length=x.2.1.length
 | 0=>by simp[Fc,Cg]
 | k+1=>cV (IW k)
def pickM:List Int:=[-1,1048575,1048576,9223372036854775807,-9223372036854775808]
def pmV (c:B9):Int:=pickM.getD (Au c pickM.length).toNat 0
def pmC (c:B9):B9:=Ag c pickM.length
def oH (c:B9):Int:=if GQ (Ag c 256) 12=true then pmV (Ag (Ag c 256) 12) else Au c 256
def jK (c:B9):B9:=if GQ (Ag c 256) 12=true then pmC (Ag (Ag c 256) 12) else Ag (Ag c 256) 12
def OB:Nat→List Int→B9→List Int×B9
 | 0,o,c=>(o,c)
 | n+1,o,c=>OB n (o++[oH c]) (jK c)
theorem mC {c:B9} (h:c.ok):(jK c).ok:=by
 unfold jK;split
 · exact Aw (Aw (Aw h))
 · exact Aw (Aw h)
theorem Wz:∀ (n:Nat) (o:List Int) (c:B9),(OB n o c).1.length=o.length+n
 | 0,o,c=>rfl
 | n+1,o,c=>by rw[OB,Wz n];simp;omega
theorem RA (c:B9) (n:Nat) (hc:c.ok) (hn:n≤256):CG Tryz.prog 14 [.ptr 0 0,.d (.int .i64 n)] [Ce c] (.ref 1) [Ce (OB n [] c).2,.arr 3 true ((OB n [] c).1.map (e1 AC))]:=by
 generalize hF:OB n [] c=F;refine DZ (by kernel_rfl) Tryz.func14 rfl rfl rfl (by simp[Bi,Later]) (by simp[BN,Ah.live]) ?_;simp;refine AB [true,true,false,false,false,true,true] (fun i:Nat×List Int×B9=>i.1≤n∧i.2.2.ok∧i.2.1.length=i.1∧OB (n - i.1) i.2.1 i.2.2=F) (fun i:Nat×List Int×B9=>[(6,.d (.int .i64 i.1))]) (fun i:Nat×List Int×B9=>[(0,Ce i.2.2),(1,.arr 3 true (i.2.1.map (e1 AC)))]) (fun i:Nat×List Int×B9=>n - i.1) (0,[],c) ?_ ?_ ?_
 · exact⟨by omega,hc,by simp,by simpa using hF⟩
 · exact⟨[0,1],by simp⟩
 rintro I S μ hI hS hμ ⟨i,a,c1⟩ ⟨hi,hk,ho,hG⟩;simp only at hi hk ho hG;by_cases hlt:i<n
 · have hd:decide (i<n)=true:=zz2 hlt;have w1:IntKind.i64.wrap ((i:Int)+1)=(i:Int)+1:=Ad (by omega) (by omega);obtain⟨d,hd1⟩:∃ d,n - i=d+1:=⟨n - i - 1,by omega⟩;have hd3:n - (i+1)=d:=by omega
   rw[hd1] at hG;unfold OB at hG;have k1:=AG c1 256 hk (by omega);have k2:=FY (Ag c1 256) 12 (Aw hk) (by omega);have k3:=GV (Ag (Ag c1 256) 12) pickM (Aw (Aw hk)) (by decide) (by decide);have hV:oH c1=if GQ (Ag c1 256) 12=true then pmV (Ag (Ag c1 256) 12) else Au c1 256:=rfl;have hC:jK c1=if GQ (Ag c1 256) 12=true then pmC (Ag (Ag c1 256) 12) else Ag (Ag c1 256) 12:=rfl;have hCo:=mC hk;rw[←show pmV (Ag (Ag c1 256) 12)=pickM.getD (Au (Ag (Ag c1 256) 12) pickM.length).toNat 0 from rfl,←show pmC (Ag (Ag c1 256) 12)=Ag (Ag (Ag c1 256) 12) pickM.length from rfl] at k3;generalize jK c1=c5 at *;generalize oH c1=v at *;generalize pmV (Ag (Ag c1 256) 12)=v2 at *;generalize pmC (Ag (Ag c1 256) 12)=c4 at *;generalize GQ (Ag c1 256) 12=ob at *;generalize Ag (Ag c1 256) 12=c3 at *;generalize Ag c1 256=c2 at *;generalize Au c1 256=v1 at *;have q1:pickM=[-1,1048575,1048576,9223372036854775807,-9223372036854775808]:=rfl;rw[q1] at k3;simp only[Dh,List.map_cons,List.map_nil] at k3;clear q1;simp[hd];refine Ac (k1) [] [0] (by simp) ?_;simp;refine Ac (k2) [] [0] (by simp) ?_;simp
   cases ob with
   | true =>
     rw[if_pos rfl] at hV hC;subst hV hC;simp;refine Ac (k3) [2] [0] (by simp) ?_;simp;refine Ak As rfl (by simp) rfl (by simp) (by simp) (by first | (simp;done)|(simp;omega)) (by simp[AR,AL]) ?_;simp[w1];exact Ae hI hS hμ (i+1,a++[v],c5) ⟨by simp;omega,hCo,by simp;omega,by simp only;rw[hd3];exact hG⟩ (by simp;omega) ⟨[0,4],by simp[e1,AC]⟩
   | false =>
     rw[if_neg (by simp)] at hV hC;subst hV hC;simp;refine Ak As rfl (by simp) rfl (by simp) (by simp) (by first | (simp;done)|(simp;omega)) (by simp[AR,AL]) ?_;simp[w1];exact Ae hI hS hμ (i+1,a++[v],c5) ⟨by simp;omega,hCo,by simp;omega,by simp only;rw[hd3];exact hG⟩ (by simp;omega) ⟨[0,3],by simp[e1,AC]⟩
 · obtain rfl:i=n:=by omega
   rw[Nat.sub_self,OB] at hG;subst hG;simp[zz3 hlt,hlt];exact⟨[0,1],by simp⟩
def fZ (bs:List Int):List Int:=(OB (1+Au (FW bs) 12).toNat [] (Ag (FW bs) 12)).1
theorem gQ (bs:List Int):(fZ bs).length≤12:=by
 have:=AV (FW bs) (n:=12) (by omega);unfold fZ;rw[Wz];simp;omega
theorem Pz (bs:List Int) (h:bs.length≤1048576):CG Tryz.prog 6 [.d (.sl 5 (bs.map (e1 LS)))] [] (.d (Dh 3 (e1 AC) (fZ bs))) []:=by
 have k1:=NF bs h;have hc:=YM h;have hr:=AV (FW bs) (n:=12) (by omega);have k2:=AG (FW bs) 12 hc (by omega);have k3:=RA (Ag (FW bs) 12) (1+Au (FW bs) 12).toNat (Aw hc) (by omega);have hD:fZ bs=(OB (1+Au (FW bs) 12).toNat [] (Ag (FW bs) 12)).1:=rfl;have w1:IntKind.i64.wrap (1+Au (FW bs) 12)=((1+Au (FW bs) 12).toNat:Int):=by rw[Ad (by omega) (by omega)];omega
 rw[hD];generalize (1+Au (FW bs) 12).toNat=n at *;generalize OB n [] (Ag (FW bs) 12)=G at *;generalize Ag (FW bs) 12=c2 at *;generalize Au (FW bs) 12=v at *;generalize FW bs=c1 at *;refine DZ (by kernel_rfl) Tryz.func6 rfl rfl rfl (by simp[Bi,Later]) (by simp[BN,Ah.live]) ?_;simp;refine Ac (k1) [] [] (by simp) ?_;simp;refine Ac (k2) [] [0] (by simp) ?_;simp[w1];refine Ac (k3) [] [0] (by simp) ?_;simp;exact⟨[],by simp⟩
theorem bO (a:List Int) (ha:a.length≤1048576):Bx Tryz.prog 9 [ints a,ints a] (.d (.bool true)):=by
 refine A5 (by kernel_rfl) Tryz.func9 rfl rfl rfl ?_;simp;refine AB [true,true,false,false,false,true] (fun k:Nat=>k≤a.length) (fun k:Nat=>[(5,.d (.int .i64 k))]) (fun k:Nat=>[]) (fun k:Nat=>a.length - k) 0 ?_ ?_ ?_
 · simp
 · exact⟨[],by simp⟩
 rintro I S μ hI hS hμ k hk;by_cases hlt:k<a.length
 · have hx1:a[k]? = some a[k]:=zz0 hlt;have w2:IntKind.i64.wrap ((k:Int)+1)=(k:Int)+1:=Ad (by omega) (by omega);generalize a[k]=u at *;have hd:decide (k<a.length)=true:=zz2 hlt;simp[hd,hx1,w2];exact⟨by kernel_rfl,Ae hI hS hμ (k+1) (by omega) (by omega) ⟨[],by simp⟩⟩
 · have hk':k=a.length:=by omega
   simp[hlt]
theorem Oe (x:AK) (ins:List Int) (hx:Cz 1048576 x) (hi:ins.length≤1048576):Bx Tryz.prog 11 [Ge x,ints ins] (ints (Fk x ins)):=by
 refine A5 (by kernel_rfl) Tryz.func11 rfl rfl rfl ?_;simp[Ao];refine Ab (IK x hx) ?_;simp;rcases ABu (Al x) with hok|hok
 case inr=>simp[hok,Fk]
 by_cases h16:ins.length≤16
 case neg=>simp[hok,Fk,h16,show (16:Int)<ins.length by omega,show ¬ (ins.length:Int)≤16 by omega]
 have hres:Fk x ins=D2 x ins ins.length:=by simp[Fk,hok,h16]
 rw[hres];simp[hok,show ¬ (16:Int)<ins.length by omega,show (ins.length:Int)≤16 by omega];refine Ab (Tf x hx) ?_;simp;refine AH [false,false,true,false,false,true,true,false,false,false,false,false,false,false,false,false,false,false,false,false,false,true,true,true] (fun k:Nat=>k≤ins.length) (fun k:Nat=>[(5,.ref 1),(6,C7 k 2),(23,.d (.int .i64 k))]) (fun k:Nat=>fun sl=>C8 k (D2 x ins k) (sl.take 1++[.arr 3 true ((Fc x ins k).map (e1 AC))])) (fun k:Nat=>ins.length - k) 0 ?_ ?_ ?_
 · simp
 · exact⟨[0,1],by simp[C7,C8,Fc]⟩
 rintro I S μ hI hS hμ k hk;by_cases hlt:k<ins.length
 · have hx1:ins[k]? = some ins[k]:=zz0 hlt;have w2:IntKind.i64.wrap ((k:Int)+1)=(k:Int)+1:=Ad (by omega) (by omega);have hd:decide (k<ins.length)=true:=zz2 hlt;have hc:=VI x (Fc x ins k) ins[k] hx hok (IW k);have hn1:Fc x ins (k+1)=(JX x (Fc x ins k) ins[k]).1:=by simp[Fc,hx1]
   have hn2:D2 x ins (k+1)=D2 x ins k++[(JX x (Fc x ins k) ins[k]).2]:=by rw[Rw];simp[OY,hx1]
   have hlen:=LX (x:=x) (ins:=ins) (k:=k);generalize hst:Fc x ins k=st at *;generalize ins[k]=u at *;generalize JX x st u=p at *;generalize D2 x ins k=os at *;by_cases hk0:k=0
   · subst hk0;have ho:os=[]:=zz7 hlen;subst ho;have w20:IntKind.i64.wrap 1=1:=by decide
     simp[C7,C8,hd,hx1];refine Ab (hc) ?_;simp;refine Ak As rfl (by simp) rfl (by simp) (by simp) (by first | (simp;done)|(simp;omega)) (by simp[AR,AL]) ?_;simp[w20];exact Ae hI hS hμ 1 (by omega) (by omega) ⟨[0,2,4],by simp[C7,C8,hn1,hn2]⟩
   · simp[C7,C8,hd,hx1,hk0];refine Ab (hc) ?_;simp;refine Ak As rfl (by simp) rfl (by simp) (by simp) (by first | (simp;done)|(simp;omega)) (by simp[AR,AL]) ?_;simp[w2];exact Ae hI hS hμ (k+1) (by omega) (by omega) ⟨[0,3,5],by simp[C7,C8,hn1,hn2]⟩
 · have hk':k=ins.length:=by omega
   subst hk';by_cases hk0:ins.length=0
   · simp[C7,C8,hk0,D2]
   · simp[C7,C8,hk0]
theorem WT {vs:List Int} (hb:CX vs) (hl:vs.length≤60) {k:Nat} {b:Int} (h:vs[k]? = some b):Dm (G0 vs) k % 2=b:=by
 have hk:=(zz1.1 h).1;have h2:=SD hb h vs.length hk;have hp:(0:Int)<2 ^ k:=Int.pow_pos (by omega);unfold Dm;rw[Int.toNat_natCast,Nat.min_eq_left (by omega),Int.fdiv_eq_ediv_of_nonneg _ (by omega)];exact h2
end Go.Proofs.YtnjedabjbeipeaaGreat
