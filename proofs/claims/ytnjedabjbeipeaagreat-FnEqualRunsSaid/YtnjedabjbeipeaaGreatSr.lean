/-
  From the laws' arguments to graphs and links.
  Conditions: those typed in each theorem.
-/
import Derived.Test.YtnjedabjbeipeaaGreatRa
namespace Go.Proofs.YtnjedabjbeipeaaGreat
open Go.RowKit Go.ChangeShapes Go.WideShapes Go.ChangeAt
set_option linter.unusedSimpArgs false
set_option linter.unusedVariables false
set_option maxRecDepth 100000
set_option maxHeartbeats 10000000
theorem U0.sl_of {α:Type} {t:TypeId} {en:α→List D} {xs:List α} (h:U0 (Dr t en xs)):∀ x∈xs,∀ q∈en x,U0 q:=by
 intro x hx q hq
 cases h with
 | sl _ _ h=>exact h _ (List.mem_map_of_mem hx) q hq
theorem U0.ints {xs:List Int} {t:TypeId} (h:U0 (Dr t (e1 AC) xs)):∀ y∈xs,J0 y:=fun y hy=>U0.i64 (U0.sl_of h y hy (AC y) (by simp[e1]))
abbrev nI (v:Nat):Int:=v
def tdD (t:List Nat):List (List D):=(t.map nI).map (e1 AC)
@[simp] theorem ABj {t:List Nat}:(tdD t).length=t.length:=by simp[tdD]
@[simp] theorem ABi:tdD []=[]:=rfl
def nxF (vals:List Int) (p:Cx×Int):Int:=E9 p.1.1 p.2 (Hp (p.1.2.2.map (Be vals)))
def M4 (x:AK) (st vals:List Int):List Int:=(x.2.1.zip st).map (nxF vals)
def cN (x:AK) (vals:List Int):Int:=Hp (x.2.2.2.map (Be vals))
def KD (x:AK) (st:List Int) (inp:Int):List Int×Int:=(M4 x st (BV x st inp),cN x (BV x st inp))
theorem OC {x:AK} {vals:List Int} (h:∀ y∈Ay x,0≤y∧y<2*(A0 x:Int)) (hl:vals.length=A0 x):X8 vals x.2.2.2:=fun y hy=>by
 rw[hl];exact h y (CO.2 (.inl hy))
theorem YD {x:AK} {vals:List Int} (h:∀ y∈Ay x,0≤y∧y<2*(A0 x:Int)) (hl:vals.length=A0 x) {s:Cx} (hs:s∈x.2.1):X8 vals s.2.2:=fun y hy=>by
 rw[hl];exact h y (CO.2 (.inr (List.mem_flatten.2 ⟨s.2.2,List.mem_map_of_mem hs,hy⟩)))
theorem V8 (x:AK) (st:List Int) (inp:Int) (hx:CF 1048576 x) (hok:Al x=true) (hs:st.length=x.2.1.length):BA Tryz.prog 27 [GD x,ints st,.d (.int .i64 inp)] (.tup [ints (KD x st inp).1,.d (.int .i64 (KD x st inp).2)]):=by
 obtain⟨⟨n1,n2,n3,n4,n5,n6⟩,o1,o2,o3⟩:=AA hok;have hN:A0 x=1+x.1.toNat+x.2.1.length+x.2.2.1.length:=rfl;show BA Tryz.prog 27 [GD x,ints st,.d (.int .i64 inp)] (.tup [ints (M4 x st (BV x st inp)),.d (.int .i64 (cN x (BV x st inp)))]);refine A6 (by kernel_rfl) Tryz.func27 rfl rfl rfl ?_;simp[Ao];refine Ab (QR x st inp hx hok hs) ?_;simp;have hvl:(BV x st inp).length=A0 x:=KW;have hvb:C5 (BV x st inp):=JM;generalize BV x st inp=vals at *;have hsl:M4 x st vals=(M4 x st vals).take x.2.1.length:=by rw[O6 (by simp[M4];omega)]
 rw[hsl];refine AJ [false,true,false,true,false,false,false,false,true,true,false,false,false,false,false,false,false,true,true,true] (fun k:Nat=>k≤x.2.1.length) (fun k:Nat=>[(9,Dh k 2),(19,.d (.int .i64 k))]) (fun k:Nat=>Dg k ((M4 x st vals).take k)) (fun k:Nat=>x.2.1.length - k) 0 ?_ ?_ ?_
 · simp
 · exact⟨[0,1],by simp[Dh,Dg]⟩
 rintro I S μ hI hS hμ k hk;by_cases hlt:k<x.2.1.length
 · have hx1:x.2.1[k]? = some x.2.1[k]:=A1 hlt;have hx2:st[k]? = some (st[k]'(by omega)):=A1 _;have hL:(AY x.2.1[k]).length=3:=rfl;have hzz:(x.2.1.zip st)[k]? = some (x.2.1[k],st[k]'(by omega)):=by simp[List.getElem?_zip_eq_some]
   have hnx:(M4 x st vals).take (k+1)=(M4 x st vals).take k++[nxF vals (x.2.1[k],st[k]'(by omega))]:=Bb (by simp only[M4,Di,hzz];rfl);have w2:IntKind.i64.wrap ((k:Int)+1)=(k:Int)+1:=Ad (by omega) (by omega);have hli:=YD o2 hvl (Dv hlt);have hl4:=DP (o1 _ (Dv hlt));generalize x.2.1[k]=s at *;generalize st[k]'(by omega)=v at *;have hd:decide (k<x.2.1.length)=true:=A8 hlt;have hd':decide (k<st.length)=true:=A8 (by omega);have hf:E9 s.1 v (Hp (s.2.2.map (Be vals)))=nxF vals (s,v):=rfl;by_cases hk0:k=0
   · subst hk0;have w20:IntKind.i64.wrap 1=1:=by decide
     simp[Dh,Dg,hd,hd',hx1,hx2,hL,AY];refine⟨by kernel_rfl,?_⟩;refine Ab (HF vals s.2.2 hvb hli (by omega) (by omega)) ?_;simp;refine Ab (MA _ _ _) ?_;simp[hf];refine Ak As rfl (by simp) rfl (by simp) (by simp) (by first | (simp;done)|(simp;omega)) (by simp[AR,AL]) ?_;simp[w20];exact Ae hI hS hμ 1 (by omega) (by omega) ⟨[0,1,4],by simp[Dh,Dg,hnx]⟩
   · simp[Dh,Dg,hd,hd',hx1,hx2,hL,AY,hk0];refine⟨by kernel_rfl,?_⟩;refine Ab (HF vals s.2.2 hvb hli (by omega) (by omega)) ?_;simp;refine Ab (MA _ _ _) ?_;simp[hf];refine Ak As rfl (by simp) rfl (by simp) (by simp) (by first | (simp;done)|(simp;omega)) (by simp[AR,AL]) ?_;simp[w2];exact Ae hI hS hμ (k+1) (by omega) (by omega) ⟨[0,1,5],by simp[Dh,Dg,hnx]⟩
 · have hk':k=x.2.1.length:=by omega
   subst hk';by_cases hk0:x.2.1.length=0
   · simp[Dh,Dg,hk0];refine Ab (HF vals x.2.2.2 hvb (OC o2 hvl) n5 (by omega)) ?_;simp[cN]
   · simp[Dh,Dg,hk0];refine Ab (HF vals x.2.2.2 hvb (OC o2 hvl) n5 (by omega)) ?_;simp[cN]
theorem Sz {vs:List Int} (hb:C5 vs) {i:Nat} {b:Int} (hi:vs[i]? = some b):∀ n,i<n→C1 vs n / 2 ^ i % 2=b
 | 0,h=>by omega
 | n+1,h=>by
   have hv:=hb b (D4 hi);have hp:(0:Int)<2 ^ i:=Int.pow_pos (by omega);by_cases e:i=n
   · subst e;have hl:=J4 hb i;unfold C1;rw[hi,Option.getD_some,Int.add_mul_ediv_right _ _ (by omega),Int.ediv_eq_zero_of_lt hl.1 hl.2];omega
   · have ih:=Sz hb hi n (by omega);obtain⟨d,hd⟩:∃ d,n=i+1+d:=⟨n - (i+1),by omega⟩
     have h2:(vs[n]?).getD 0*2 ^ n=((vs[n]?).getD 0*2 ^ d*2)*2 ^ i:=by
      rw[hd,Int.pow_add,Int.pow_succ];simp only[Int.mul_assoc,Int.mul_comm,Int.mul_left_comm]
     unfold C1;rw[h2,Int.add_mul_ediv_right _ _ (by omega)];omega
def Fv (x:AK) (ins:List Int):Nat→List Int
 | 0=>Ck x
 | k+1=>(KD x (Fv x ins k) ((ins[k]?).getD 0)).1
def Pt (x:AK) (ins:List Int) (k:Nat):Int:=(KD x (Fv x ins k) ((ins[k]?).getD 0)).2
def Em (x:AK) (ins:List Int) (k:Nat):List Int:=(List.range k).map (Pt x ins)
def FI (x:AK) (ins:List Int):List Int:=if Al x=true∧ins.length≤16 then Em x ins ins.length else []
theorem RP {x:AK} {ins:List Int} {k:Nat}:Em x ins (k+1)=Em x ins k++[Pt x ins k]:=by simp[Em,List.range_succ]
theorem MJ {x:AK} {ins:List Int} {k:Nat}:(Em x ins k).length=k:=by simp[Em]
theorem fN {x:AK} {st vals:List Int} (hl:st.length=x.2.1.length):(M4 x st vals).length=x.2.1.length:=by simp[M4];omega
theorem Jw {x:AK} {ins:List Int}:∀ k,(Fv x ins k).length=x.2.1.length
 | 0=>by simp[Fv,Ck]
 | k+1=>fN (Jw k)
def pickM:List Int:=[-1,1048575,1048576,9223372036854775807,-9223372036854775808]
def pmV (c:Cd):Int:=pickM.getD (Au c pickM.length).toNat 0
def pmC (c:Cd):Cd:=Ag c pickM.length
def qI (c:Cd):Int:=if Ha (Ag c 256) 12=true then pmV (Ag (Ag c 256) 12) else Au c 256
def lI (c:Cd):Cd:=if Ha (Ag c 256) 12=true then pmC (Ag (Ag c 256) 12) else Ag (Ag c 256) 12
def O8:Nat→List Int→Cd→List Int×Cd
 | 0,o,c=>(o,c)
 | n+1,o,c=>O8 n (o++[qI c]) (lI c)
theorem oM {c:Cd} (h:c.ok):(lI c).ok:=by
 unfold lI;split
 · exact Aw (Aw (Aw h))
 · exact Aw (Aw h)
theorem WX:∀ (n:Nat) (o:List Int) (c:Cd),(O8 n o c).1.length=o.length+n
 | 0,o,c=>rfl
 | n+1,o,c=>by rw[O8,WX n];simp;omega
theorem RE (c:Cd) (n:Nat) (hc:c.ok) (hn:n≤256):CM Tryz.prog 14 [.ptr 0 0,.d (.int .i64 n)] [Cj c] (.ref 1) [Cj (O8 n [] c).2,.arr 3 true ((O8 n [] c).1.map (e1 AC))]:=by
 generalize hF:O8 n [] c=F;refine Ec (by kernel_rfl) Tryz.func14 rfl rfl rfl (by simp[Bl,Later]) (by simp[BP,Ah.live]) ?_;simp;refine AB [true,true,false,false,false,true,true] (fun i:Nat×List Int×Cd=>i.1≤n∧i.2.2.ok∧i.2.1.length=i.1∧O8 (n - i.1) i.2.1 i.2.2=F) (fun i:Nat×List Int×Cd=>[(6,.d (.int .i64 i.1))]) (fun i:Nat×List Int×Cd=>[(0,Cj i.2.2),(1,.arr 3 true (i.2.1.map (e1 AC)))]) (fun i:Nat×List Int×Cd=>n - i.1) (0,[],c) ?_ ?_ ?_
 · exact⟨by omega,hc,by simp,by simpa using hF⟩
 · exact⟨[0,1],by simp⟩
 rintro I S μ hI hS hμ ⟨i,a,c1⟩ ⟨hi,hk,ho,hG⟩;simp only at hi hk ho hG;by_cases hlt:i<n
 · have hd:decide (i<n)=true:=A8 hlt;have w1:IntKind.i64.wrap ((i:Int)+1)=(i:Int)+1:=Ad (by omega) (by omega);obtain⟨d,hd1⟩:∃ d,n - i=d+1:=⟨n - i - 1,by omega⟩;have hd3:n - (i+1)=d:=by omega
   rw[hd1] at hG;unfold O8 at hG;have k1:=AG c1 256 hk (by omega);have k2:=Gp (Ag c1 256) 12 (Aw hk) (by omega);have k3:=Hn (Ag (Ag c1 256) 12) pickM (Aw (Aw hk)) (by decide) (by decide);have hV:qI c1=if Ha (Ag c1 256) 12=true then pmV (Ag (Ag c1 256) 12) else Au c1 256:=rfl;have hC:lI c1=if Ha (Ag c1 256) 12=true then pmC (Ag (Ag c1 256) 12) else Ag (Ag c1 256) 12:=rfl;have hCo:=oM hk;rw[←show pmV (Ag (Ag c1 256) 12)=pickM.getD (Au (Ag (Ag c1 256) 12) pickM.length).toNat 0 from rfl,←show pmC (Ag (Ag c1 256) 12)=Ag (Ag (Ag c1 256) 12) pickM.length from rfl] at k3;generalize lI c1=c5 at *;generalize qI c1=v at *;generalize pmV (Ag (Ag c1 256) 12)=v2 at *;generalize pmC (Ag (Ag c1 256) 12)=c4 at *;generalize Ha (Ag c1 256) 12=ob at *;generalize Ag (Ag c1 256) 12=c3 at *;generalize Ag c1 256=c2 at *;generalize Au c1 256=v1 at *;have q1:pickM=[-1,1048575,1048576,9223372036854775807,-9223372036854775808]:=rfl;rw[q1] at k3;simp only[Dr,List.map_cons,List.map_nil] at k3;clear q1;simp[hd];refine Ac (k1) [] [0] (by simp) ?_;simp;refine Ac (k2) [] [0] (by simp) ?_;simp
   cases ob with
   | true =>
     rw[if_pos rfl] at hV hC;subst hV hC;simp;refine Ac (k3) [2] [0] (by simp) ?_;simp;refine Ak As rfl (by simp) rfl (by simp) (by simp) (by first | (simp;done)|(simp;omega)) (by simp[AR,AL]) ?_;simp[w1];exact Ae hI hS hμ (i+1,a++[v],c5) ⟨by simp;omega,hCo,by simp;omega,by simp only;rw[hd3];exact hG⟩ (by simp;omega) ⟨[0,4],by simp[e1,AC]⟩
   | false =>
     rw[if_neg (by simp)] at hV hC;subst hV hC;simp;refine Ak As rfl (by simp) rfl (by simp) (by simp) (by first | (simp;done)|(simp;omega)) (by simp[AR,AL]) ?_;simp[w1];exact Ae hI hS hμ (i+1,a++[v],c5) ⟨by simp;omega,hCo,by simp;omega,by simp only;rw[hd3];exact hG⟩ (by simp;omega) ⟨[0,3],by simp[e1,AC]⟩
 · obtain rfl:i=n:=by omega
   rw[Nat.sub_self,O8] at hG;subst hG;simp[BH hlt,hlt];exact⟨[0,1],by simp⟩
def jI (bs:List Int):List Int:=(O8 (1+Au (Gl bs) 12).toNat [] (Ag (Gl bs) 12)).1
theorem fX (bs:List Int):(jI bs).length≤12:=by
 have:=AV (Gl bs) (n:=12) (by omega);unfold jI;rw[WX];simp;omega
theorem QA (bs:List Int) (h:bs.length≤1048576):CM Tryz.prog 6 [.d (.sl 5 (bs.map (e1 Mo)))] [] (.d (Dr 3 (e1 AC) (jI bs))) []:=by
 have k1:=OK bs h;have hc:=Zw h;have hr:=AV (Gl bs) (n:=12) (by omega);have k2:=AG (Gl bs) 12 hc (by omega);have k3:=RE (Ag (Gl bs) 12) (1+Au (Gl bs) 12).toNat (Aw hc) (by omega);have hD:jI bs=(O8 (1+Au (Gl bs) 12).toNat [] (Ag (Gl bs) 12)).1:=rfl;have w1:IntKind.i64.wrap (1+Au (Gl bs) 12)=((1+Au (Gl bs) 12).toNat:Int):=by rw[Ad (by omega) (by omega)];omega
 rw[hD];generalize (1+Au (Gl bs) 12).toNat=n at *;generalize O8 n [] (Ag (Gl bs) 12)=G at *;generalize Ag (Gl bs) 12=c2 at *;generalize Au (Gl bs) 12=v at *;generalize Gl bs=c1 at *;refine Ec (by kernel_rfl) Tryz.func6 rfl rfl rfl (by simp[Bl,Later]) (by simp[BP,Ah.live]) ?_;simp;refine Ac (k1) [] [] (by simp) ?_;simp;refine Ac (k2) [] [0] (by simp) ?_;simp[w1];refine Ac (k3) [] [0] (by simp) ?_;simp;exact⟨[],by simp⟩
theorem cD (a:List Int) (ha:a.length≤1048576):BA Tryz.prog 9 [ints a,ints a] (.d (.bool true)):=by
 refine A6 (by kernel_rfl) Tryz.func9 rfl rfl rfl ?_;simp;refine AB [true,true,false,false,false,true] (fun k:Nat=>k≤a.length) (fun k:Nat=>[(5,.d (.int .i64 k))]) (fun k:Nat=>[]) (fun k:Nat=>a.length - k) 0 ?_ ?_ ?_
 · simp
 · exact⟨[],by simp⟩
 rintro I S μ hI hS hμ k hk;by_cases hlt:k<a.length
 · have hx1:a[k]? = some a[k]:=A1 hlt;have w2:IntKind.i64.wrap ((k:Int)+1)=(k:Int)+1:=Ad (by omega) (by omega);generalize a[k]=u at *;have hd:decide (k<a.length)=true:=A8 hlt;simp[hd,hx1,w2];exact⟨by kernel_rfl,Ae hI hS hμ (k+1) (by omega) (by omega) ⟨[],by simp⟩⟩
 · have hk':k=a.length:=by omega
   simp[hlt]
theorem Oi (x:AK) (ins:List Int) (hx:CF 1048576 x) (hi:ins.length≤1048576):BA Tryz.prog 11 [GD x,ints ins] (ints (FI x ins)):=by
 refine A6 (by kernel_rfl) Tryz.func11 rfl rfl rfl ?_;simp[Ao];refine Ab (Jt x hx) ?_;simp;rcases Ep (Al x) with hok|hok
 case inr=>simp[hok,FI]
 by_cases h16:ins.length≤16
 case neg=>simp[hok,FI,h16,show (16:Int)<ins.length by omega,show ¬ (ins.length:Int)≤16 by omega]
 have hres:FI x ins=Em x ins ins.length:=by simp[FI,hok,h16]
 rw[hres];simp[hok,show ¬ (16:Int)<ins.length by omega,show (ins.length:Int)≤16 by omega];refine Ab (UN x hx) ?_;simp;refine AJ [false,false,true,false,false,true,true,false,false,false,false,false,false,false,false,false,false,false,false,false,false,true,true,true] (fun k:Nat=>k≤ins.length) (fun k:Nat=>[(5,.ref 1),(6,Dh k 2),(23,.d (.int .i64 k))]) (fun k:Nat=>fun sl=>Dg k (Em x ins k) (sl.take 1++[.arr 3 true ((Fv x ins k).map (e1 AC))])) (fun k:Nat=>ins.length - k) 0 ?_ ?_ ?_
 · simp
 · exact⟨[0,1],by simp[Dh,Dg,Fv]⟩
 rintro I S μ hI hS hμ k hk;by_cases hlt:k<ins.length
 · have hx1:ins[k]? = some ins[k]:=A1 hlt;have w2:IntKind.i64.wrap ((k:Int)+1)=(k:Int)+1:=Ad (by omega) (by omega);have hd:decide (k<ins.length)=true:=A8 hlt;have hc:=V8 x (Fv x ins k) ins[k] hx hok (Jw k);have hn1:Fv x ins (k+1)=(KD x (Fv x ins k) ins[k]).1:=by simp[Fv,hx1]
   have hn2:Em x ins (k+1)=Em x ins k++[(KD x (Fv x ins k) ins[k]).2]:=by rw[RP];simp[Pt,hx1]
   have hlen:=MJ (x:=x) (ins:=ins) (k:=k);generalize hst:Fv x ins k=st at *;generalize ins[k]=u at *;generalize KD x st u=p at *;generalize Em x ins k=os at *;by_cases hk0:k=0
   · subst hk0;have ho:os=[]:=Gx hlen;subst ho;have w20:IntKind.i64.wrap 1=1:=by decide
     simp[Dh,Dg,hd,hx1];refine Ab (hc) ?_;simp;refine Ak As rfl (by simp) rfl (by simp) (by simp) (by first | (simp;done)|(simp;omega)) (by simp[AR,AL]) ?_;simp[w20];exact Ae hI hS hμ 1 (by omega) (by omega) ⟨[0,2,4],by simp[Dh,Dg,hn1,hn2]⟩
   · simp[Dh,Dg,hd,hx1,hk0];refine Ab (hc) ?_;simp;refine Ak As rfl (by simp) rfl (by simp) (by simp) (by first | (simp;done)|(simp;omega)) (by simp[AR,AL]) ?_;simp[w2];exact Ae hI hS hμ (k+1) (by omega) (by omega) ⟨[0,3,5],by simp[Dh,Dg,hn1,hn2]⟩
 · have hk':k=ins.length:=by omega
   subst hk';by_cases hk0:ins.length=0
   · simp[Dh,Dg,hk0,Em]
   · simp[Dh,Dg,hk0]
theorem Vz {vs:List Int} (hb:C5 vs) (hl:vs.length≤60) {k:Nat} {b:Int} (h:vs[k]? = some b):DD (Hp vs) k % 2=b:=by
 have hk:=(BZ.1 h).1;have h2:=Sz hb h vs.length hk;have hp:(0:Int)<2 ^ k:=Int.pow_pos (by omega);unfold DD;rw[Int.toNat_natCast,Nat.min_eq_left (by omega),Int.fdiv_eq_ediv_of_nonneg _ (by omega)];exact h2
end Go.Proofs.YtnjedabjbeipeaaGreat
