/-
  Numbers and their bits. Plain lemmas, about no function of the program.
  Conditions: those typed in each theorem.
-/
import Derived.IntWalk
import Derived.Test.YtnjedabjbeipeaaGreatV6
namespace Go.Proofs.YtnjedabjbeipeaaGreat
open Go.RowKit Go.ChangeShapes Go.WideShapes
set_option linter.unusedSimpArgs false
set_option linter.unusedVariables false
set_option maxRecDepth 100000
set_option maxHeartbeats 10000000
theorem EW (a:Int):(BitVec.ofInt 64 a).toNat=(a % 18446744073709551616).toNat:=by simp
theorem CD (a:Int):C0 a 1=a % 2:=by
 unfold C0;rw[BitVec.toNat_and,EW,EW,show ((1:Int) % 18446744073709551616).toNat=1 from rfl,Nat.and_one_is_mod,Ad (by omega) (by omega)];omega
theorem Xo (a:Int):C0 a 3=a % 4:=by
 unfold C0;rw[BitVec.toNat_and,EW,EW,show ((3:Int) % 18446744073709551616).toNat=2 ^ 2 - 1 from rfl,Nat.and_two_pow_sub_one_eq_mod,Ad (by omega) (by omega)];omega
theorem EI {a:Int} (h:0≤a∧a≤1):a=0∨a=1:=by omega
theorem TG {a b:Int} (ha:0≤a∧a≤1) (hb:0≤b∧b≤1):C0 a b=a*b:=by
 rcases EI ha with rfl|rfl<;>rcases EI hb with rfl|rfl<;>decide
theorem Tq {a b:Int} (ha:0≤a∧a≤1) (hb:0≤b∧b≤1):Bm a b=(a+b) % 2:=by
 rcases EI ha with rfl|rfl<;>rcases EI hb with rfl|rfl<;>decide
theorem iR {a:Int} {k:Nat} (ha:0≤a) (hk:k≤62) (h:a*2 ^ k≤9223372036854775807):ES a k=a*2 ^ k:=by
 unfold ES;rw[Int.toNat_natCast,Nat.min_eq_left (by omega)];have:0≤a*2 ^ k:=Int.mul_nonneg ha (Int.le_of_lt (Int.pow_pos (by omega)));exact Ad (by omega) h
theorem XI {k n:Nat} (h:k≤n):(2:Int) ^ k≤2 ^ n:=by
 have:=qF (show 0<2 by omega) h
 exact_mod_cast this
theorem Nx {b:Int} {k:Nat} (hb:0≤b∧b≤1) (hk:k≤62):ES b k=b*2 ^ k:=by
 refine iR hb.1 hk ?_;have h62:=XI hk;have:(2:Int) ^ 62=4611686018427387904:=by decide
 rcases EI hb with rfl|rfl<;>omega
theorem Fe {a:Int} (h0:0≤a) (h1:a<18446744073709551616):(BitVec.ofInt 64 a).toNat=a.toNat:=by
 rw[EW,Int.emod_eq_of_lt h0 h1]
theorem jQ {a b:Int} {k:Nat} (ha:0≤a∧a<2 ^ k) (hb:0≤b∧b≤1) (hk:k≤61):Yq a (b*2 ^ k)=a+b*2 ^ k:=by
 have h62:=XI hk;have e62:(2:Int) ^ 61=2305843009213693952:=by decide
 have hp:(0:Int)<2 ^ k:=Int.pow_pos (by omega);unfold Yq;rcases EI hb with rfl|rfl
 · rw[BitVec.toNat_or,Fe ha.1 (by omega),show (0:Int)*2 ^ k=0 by omega];simp;rw[Ad (by omega) (by omega)];omega
 · rw[BitVec.toNat_or,Fe ha.1 (by omega),Int.one_mul,Fe (by omega) (by omega)]
   have e:((2:Int) ^ k).toNat=2 ^ k:=by
    have:((2:Int) ^ k)=((2 ^ k:Nat):Int):=by simp
    rw[this,Int.toNat_natCast]
   have hlt:a.toNat<2 ^ k:=by rw[←e];omega
   rw[e,Nat.or_comm,show 2 ^ k=2 ^ k*1 by omega,←Nat.two_pow_add_eq_or_of_lt hlt,Nat.mul_one];have e2:(((2 ^ k:Nat)):Int)=2 ^ k:=by simp
   rw[Int.natCast_add,e2,Ad (by omega) (by omega)];omega
def Af (x:Int):Int:=if x % 2=0 then x+1 else x - 1
theorem Bq {a:Int} (h0:0≤a) (h1:a<4611686018427387904):Bm a 1=Af a:=by
 unfold Bm Af;rw[BitVec.toNat_xor,Fe h0 (by omega),show (BitVec.ofInt 64 1).toNat=1 from rfl];obtain⟨n,rfl⟩:∃ n:Nat,a=n:=⟨a.toNat,by omega⟩;rw[Int.toNat_natCast];have h:=Nat.div_add_mod n 2;have h1:=Nat.div_add_mod (n ^^^ 1) 2;have h2:(n ^^^ 1) / 2=n / 2:=by rw[Nat.xor_div_two];simp
 have h3:=Nat.xor_mod_two_eq_one (a:=n) (b:=1);rw[Ad (by omega) (by omega)];split<;>omega
theorem QJ {a:Int} (h0:0≤a) (h1:a<4611686018427387904):Bm a 0=a:=by
 unfold Bm;rw[BitVec.toNat_xor,Fe h0 (by omega),show (BitVec.ofInt 64 0).toNat=0 from rfl,Nat.xor_zero,Ad (by omega) (by omega)];omega
theorem N1 {a:Int} (h0:0≤a) (h1:a≤9223372036854775807):IntKind.i64.wrap (a.tdiv 2)=a / 2:=by
 rw[Int.tdiv_eq_ediv_of_nonneg h0,Ad (by omega) (by omega)]
theorem NM {a:Int} (h0:0≤a) (h1:a≤9223372036854775807):IntKind.u64.wrap a=a:=by
 have:=IntWalk.u64_in a;exact this ⟨h0,by omega⟩
def Xk (x:Int) (k:Nat):Int:=DD x k % 2
theorem Yp (x:Int) (k:Nat):0≤Xk x k∧Xk x k≤1:=by unfold Xk;omega
theorem Zj (x:Int) (k:Nat):C0 (DD x k) 1=Xk x k:=CD _
theorem EX (n lo hi:Int):BA Tryz.prog 45 [.d (.int .i64 n),.d (.int .i64 lo),.d (.int .i64 hi)] (.d (.bool (DX n lo hi))):=by
 refine A6 (by kernel_rfl) Tryz.func45 rfl rfl rfl ?_;simp[Fk,KQ,↓BT,↓BS,BT,BS,HA,FC,H1,D6,H8,Fo,GK,EU,E4,D3,Ol,Hc,St.get,St.put,St.eval,GQ,evalT,Md,MD,Kb,iH,GC,DX];constructor<;>intro h<;>simp[Nf,GH,O3,Ht,Ip,CS,St.get,h]<;>omega
theorem AP {n lo hi:Int}:DX n lo hi=true↔lo≤n∧n≤hi:=by simp[DX]
def JE (xs:List Int) (n:Int):Bool:=xs.all fun x=>DX x 0 (n - 1)
def Fz (n:Int):Int:=if n=0 then 1 else if n=1 then 3 else if n=2 then 15 else if n=3 then 255 else 65535
def DE (n b:Int):Bool:=DX n 0 4&&DX b 0 (Fz n)
theorem AB1 {n:Int} (h:DX n 0 4=true):n=0∨n=1∨n=2∨n=3∨n=4:=by have:=AP.1 h;omega
theorem PR {n:Nat} {b:Int} (h:DE n b=true):n≤4:=by
 simp only[DE,Bool.and_eq_true] at h;have:=AP.1 h.1;omega
theorem Sl (n:Int) (h:DX n 0 4=true):BA Tryz.prog 113 [.d (.int .i64 n)] (.d (.int .i64 (Fz n))):=by
 rcases AB1 h with rfl|rfl|rfl|rfl|rfl
 all_goals
  refine A6 (by kernel_rfl) Tryz.func113 rfl rfl rfl ?_;simp[Fk,KQ,HA,FC,H1,D6,Fo,D3,Hc,St.get,St.put,St.eval,GQ,evalT,Xn,V2,Sn,iH,CS,GC,NM,(by decide:ES 1 1=2),(by decide:ES 1 2=4),(by decide:ES 1 4=16),(by decide:ES 1 8=256),(by decide:ES 1 16=65536),Nf,GH,O3,Ht,Ip,CS,St.get,Fz,Ad]
theorem Jk (n b:Int):BA Tryz.prog 111 [.agg [.int .i64 n,.int .i64 b]] (.d (.bool (DE n b))):=by
 refine A6 (by kernel_rfl) Tryz.func111 rfl rfl rfl ?_;simp[MG,Fk,KQ,FC,D6,IK,EJ,UM,MQ,D3,Hc,St.get,St.put,St.eval,GQ,evalT,IM,Ik,C7,iH,Hs,RK,EB,Bh,V.cell];refine⟨by kernel_rfl,?_⟩;refine Ab (EX _ _ _) ?_;simp only[F0,inst,Ib,GE];simp[↓BT,↓BS,BT,BS,HA,FC,H1,D6,H8,Fo,IK,EJ,MQ,GK,EU,E4,D3,Ol,Hc,St.get,St.put,St.eval,GQ,evalT,MD,Kb,IM,Ik,C7,Hs,RK,EB,GC];rcases Ep (DX n 0 4) with h|h
 case inr=>simp[↓BS,BS,St.get,CS,h,Nf,GH,O3,Ht,Ip,CS,St.get,DE]
 by_cases hb:0≤b
 · have hr:DX b 0 (Fz n)=decide (b≤Fz n):=by simp[DX,hb]
   simp[↓BT,BT,h,hb];refine Ab (Sl n h) ?_;simp only[F0,inst,Ib,GE];simp[↓BT,BT,HA,FC,D6,H8,Fo,GK,EU,E4,D3,Ol,Hc,St.get,St.put,St.eval,GQ,evalT,Md,Kb,CS,GC,Nf,GH,O3,Ht,Ip,CS,St.get,DE,h,hr]
 · have hr:DX b 0 (Fz n)=false:=by simp[DX];omega
   simp[↓BT,↓BS,BT,BS,St.get,CS,h,hb,Nf,GH,O3,Ht,Ip,CS,St.get,DE,hr]
def Bx (x:Cx):Bool :=
 if x.1=0 then DX x.2.1 0 1&&decide (x.2.2.length=1) else if x.1=1 then DX x.2.1 0 31&&decide (x.2.2.length=4) else false
theorem eE (x:Cx):BA Tryz.prog 64 [.agg (AY x)] (.d (.bool (Bx x))):=by
 refine A6 (by kernel_rfl) Tryz.func64 rfl rfl rfl ?_;simp[V6,Fk,KQ,W3,PN,KH,Sq,HA,FC,D6,Fo,IK,EJ,UM,MQ,D3,Hc,HU,St.get,St.put,St.eval,GQ,evalT,ME,IM,Ik,C7,iH,Hs,RK,EB,Bh,V.cell,Dr,e3,AC,GC,AY];by_cases h0:x.1=0
 · simp[h0];refine Ab (Fl _ _ _) ?_;simp only[F0,inst,Ib,GE];simp[↓BT,↓BS,BT,BS,HA,FC,H1,D6,H8,Fo,UB,IK,EJ,GK,EU,E4,D3,Ol,oS,Hc,HU,St.get,St.put,St.eval,GQ,evalT,ME,Kb,Ko,IM,Ik,C7,GC];rcases Ep (DX x.2.1 0 1) with h|h<;>simp[↓BT,↓BS,BT,BS,St.get,CS,h,Nf,GH,O3,Ht,Ip,CS,St.get,Bx,h0];by_cases h2:x.2.2.length=1<;>simp[h2]<;>omega
 by_cases h1:x.1=1
 · simp[h1];refine Ab (Fl _ _ _) ?_;simp only[F0,inst,Ib,GE];simp[↓BT,↓BS,BT,BS,HA,FC,H1,D6,H8,Fo,UB,IK,EJ,GK,EU,E4,D3,Ol,oS,Hc,HU,St.get,St.put,St.eval,GQ,evalT,ME,Kb,Ko,IM,Ik,C7,GC];rcases Ep (DX x.2.1 0 31) with h|h<;>simp[↓BT,↓BS,BT,BS,St.get,CS,h,Nf,GH,O3,Ht,Ip,CS,St.get,Bx,h1];by_cases h2:x.2.2.length=4<;>simp[h2]<;>omega
 · simp[St.get,CS,h0,h1,Nf,GH,O3,Ht,Ip,CS,St.get,Bx]
def Hq (v l:Int):Bool:=!(l==0)&&DX l (-v) v
def C6 (v:Int) (cl:List Int):Bool:=decide (cl.length≤400)&&cl.all (Hq v)
def Gk (v:Int) (cls:List (List Int)):Bool:=DX v 0 400&&decide (cls.length≤1600)&&cls.all (C6 v)
def Fg (asg:List Bool) (x:Int):Bool:=if 0<x then asg[(x - 1).toNat]?==some true else if x<0 then asg[(-x - 1).toNat]?==some false else false
def Et (asg:List Bool) (cl:List Int):Bool:=cl.any (Fg asg)
theorem Hm {v:Int} {cls:List (List Int)} (h:Gk v cls=true):0≤v∧v≤400:=by
 unfold Gk at h;simp only[Bool.and_eq_true] at h;exact AP.1 h.1.1
def D9 (p:List Int) (l:Int):Int:=if l<0 then -(p.getD (-l - 1).toNat 0) else p.getD (l - 1).toNat 0
def D2 (p:List Int):List Int→Int→Int×Bool
 | [],u=>(u,u==0)
 | l::ls,u=>if D9 p l=1 then (0,false) else if D9 p l=0 then (if u≠0∧u≠l then (0,false) else D2 p ls l) else D2 p ls u
def C4 (p cl:List Int):Int×Bool:=D2 p cl 0
def Dq (p:List Int) (u:Int):List Int:=if 0<u then p.set (u - 1).toNat 1 else if u<0 then p.set (-u - 1).toNat (-1) else p
def DB:List (List Int)→List Int→Bool→Option (List Int×Bool)
 | [],p,ch=>some (p,ch)
 | c::cs,p,ch=>if (C4 p c).2=true then none else if (C4 p c).1=0 then DB cs p ch else DB cs (Dq p (C4 p c).1) true
def Ez (p:List Int):Nat:=p.count 0
def E6 (cls:List (List Int)) (p:List Int):Option (List Int) :=
 match DB cls p false with
 | none=>none
 | some (p',ch)=>if ch=true∧Ez p'<Ez p then E6 cls p' else some p'
termination_by Ez p
def Ds (p:List Int):Prop:=∀ x∈p,-1≤x∧x≤1
def EH (n:Nat) (l:Int):Prop:=l≠0∧-(n:Int)≤l∧l≤n
def CG (n:Nat) (cls:List (List Int)):Prop:=∀ c∈cls,∀ l∈c,EH n l
theorem Eu (p:List Int) (u:Int):(Dq p u).length=p.length:=by unfold Dq;split<;>(try split)<;>simp
theorem ZB {p:List Int} {i:Nat} (h:i<p.length):p.getD i 0=p[i]:=by simp[List.getD,A1 h]
theorem DO {p:List Int} (h:Ds p) (i:Nat) {x:Int} (hx:-1≤x∧x≤1):Ds (p.set i x):=by
 intro y hy;rcases List.mem_or_eq_of_mem_set hy with h1|h1
 · exact h y h1
 · rw[h1];exact hx
theorem Fi {p:List Int} (h:Ds p) (u:Int):Ds (Dq p u):=by
 unfold Dq;split
 · exact DO h _ (by omega)
 · split
   · exact DO h _ (by omega)
   · exact h
theorem LC {p:List Int}:∀ {cl:List Int} {u0 u:Int} {c:Bool},D2 p cl u0=(u,c)→u=0∨u=u0∨(u∈cl∧D9 p u=0)
 | [],u0,u,c,h=>by
   simp only[D2,Prod.mk.injEq] at h;exact .inr (.inl h.1.symm)
 | l::ls,u0,u,c,h=>by
   unfold D2 at h;split at h
   · simp only[Prod.mk.injEq] at h;exact .inl h.1.symm
   · split at h
     · rename_i h0;split at h
       · simp only[Prod.mk.injEq] at h;exact .inl h.1.symm
       · rcases LC h with h1|h1|h1
         · exact .inl h1
         · subst h1;exact .inr (.inr ⟨by simp,h0⟩)
         · exact .inr (.inr ⟨by simp[h1.1],h1.2⟩)
     · rcases LC h with h1|h1|h1
       · exact .inl h1
       · exact .inr (.inl h1)
       · exact .inr (.inr ⟨by simp[h1.1],h1.2⟩)
theorem HS {p cl:List Int} (h:(C4 p cl).1≠0):(C4 p cl).1∈cl∧D9 p (C4 p cl).1=0:=by
 rcases LC (p:=p) (cl:=cl) (u0:=0) (u:=(C4 p cl).1) (c:=(C4 p cl).2) rfl with h1|h1|h1
 · exact absurd h1 h
 · exact absurd h1 h
 · exact h1
theorem MO {p:List Int} {i:Nat} (h:i<p.length) (h0:p[i]=0) {x:Int} (hx:x≠0):(p.set i x).count 0+1=p.count 0:=by
 have e:p=p.take i++p[i]::p.drop (i+1):=by rw[List.getElem_cons_drop,List.take_append_drop]
 have e2:p.set i x=p.take i++x::p.drop (i+1):=by rw[List.set_eq_take_append_cons_drop,if_pos h]
 rw[e2]
 conv=>rhs;rw[e]
 rw[List.count_append,List.count_append,List.count_cons,List.count_cons,h0];have:(x==(0:Int))=false:=beq_eq_false_iff_ne.2 hx;simp[this];omega
theorem TN {p:List Int} {u:Int} (hu:EH p.length u) (h0:D9 p u=0):Ez (Dq p u)+1=Ez p:=by
 obtain⟨hne,hlo,hhi⟩:=hu;unfold Ez Dq;unfold D9 at h0;by_cases hp:0<u
 · rw[if_pos hp];rw[if_neg (by omega)] at h0;have hi:(u - 1).toNat<p.length:=by omega
   rw[ZB hi] at h0;exact MO hi h0 (by omega)
 · rw[if_neg hp,if_pos (by omega)];rw[if_pos (by omega)] at h0;have hi:(-u - 1).toNat<p.length:=by omega
   rw[ZB hi] at h0;exact MO hi (by omega) (by omega)
theorem EZ:∀ {cls:List (List Int)} {p p':List Int} {ch ch':Bool},CG p.length cls→Ds p→DB cls p ch=some (p',ch') →
 p'.length=p.length∧Ds p'∧Ez p'≤Ez p∧(ch'=true→ch=false→Ez p'<Ez p)∧(ch=true→ch'=true)
 | [],p,p',ch,ch',_,ht,h=>by
   simp only[DB,Option.some.injEq,Prod.mk.injEq] at h;obtain⟨rfl,rfl⟩:=h;exact⟨rfl,ht,Nat.le_refl _,(fun h1 h2=>by rw[h1] at h2;cases h2),id⟩
 | c::cs,p,p',ch,ch',hc,ht,h=>by
   unfold DB at h;split at h
   · cases h
   · split at h
     · exact EZ (fun d hd=>hc d (by simp[hd])) ht h
     · rename_i hu;obtain⟨hm,hv⟩:=HS hu;have hz:=TN (hc c (by simp) _ hm) hv;obtain⟨h1,h2,h3,h4,h5⟩:=EZ (by rw[Eu];exact fun d hd=>hc d (by simp[hd])) (Fi ht _) h;rw[Eu] at h1;exact⟨h1,h2,by omega,fun _ _=>by omega,fun _=>h5 rfl⟩
theorem Jc {cls:List (List Int)} {p:List Int} (hc:CG p.length cls) (ht:Ds p) :
 E6 cls p=match DB cls p false with
  | none=>none
  | some (p',true)=>E6 cls p'
  | some (p',false)=>some p':=by
 rw[E6]
 cases h:DB cls p false with
 | none=>rfl
 | some r =>
   obtain⟨p',ch⟩:=r
   cases ch with
   | false=>simp
   | true =>
     obtain⟨_,_,_,h4,_⟩:=EZ hc ht h;simp[h4 rfl rfl]
theorem Dc {cls:List (List Int)} {p p':List Int} (hc:CG p.length cls) (ht:Ds p) (h:E6 cls p=some p'):p'.length=p.length∧Ds p'∧Ez p'≤Ez p:=by
 generalize hn:Ez p=n
 induction n using Nat.strongRecOn generalizing p with
 | _ n ih =>
   subst hn;rw[Jc hc ht] at h
   cases hp:DB cls p false with
   | none=>rw[hp] at h;cases h
   | some r =>
     obtain⟨q,ch⟩:=r;rw[hp] at h;obtain⟨h1,h2,h3,h4,_⟩:=EZ hc ht hp
     cases ch with
     | false =>
       simp only[Option.some.injEq] at h;subst h;exact⟨h1,h2,h3⟩
     | true =>
       obtain⟨a,b,c⟩:=ih _ (h4 rfl rfl) (by rw[h1];exact hc) h2 h rfl;exact⟨a.trans h1,b,by omega⟩
theorem eC {n:Nat} {l:Int}:Hq n l=true↔EH n l:=by
 unfold Hq EH;simp only[Bool.and_eq_true,Bool.not_eq_true',beq_eq_false_iff_ne,AP]
theorem RT {n:Nat} {cl:List Int} (h:C6 n cl=true):∀ l∈cl,EH n l:=by
 unfold C6 at h;rw[Bool.and_eq_true,GA] at h;exact fun l hl=>eC.1 (h.2 l hl)
theorem GV {n:Nat} {cls:List (List Int)} (h:Gk n cls=true):CG n cls:=by
 unfold Gk at h;rw[Bool.and_eq_true,GA] at h;exact fun c hc=>RT (h.2 c hc)
theorem Ew (q:List Int) (m:Nat):Dq q ((m:Int)+1)=q.set m 1:=by
 unfold Dq;rw[if_pos (by omega)]
 congr 1
 omega
theorem Ex (q:List Int) (m:Nat):Dq q (-((m:Int)+1))=q.set m (-1):=by
 unfold Dq;rw[if_neg (by omega),if_pos (by omega)]
 congr 1
 omega
theorem fS {cls:List (List Int)} {k:Nat} {x:List Int} (hx:cls[k]? = some x) (q:List Int) (b:Bool) :
 DB (cls.drop k) q b=if (C4 q x).2=true then none else if (C4 q x).1=0 then DB (cls.drop (k+1)) q b else DB (cls.drop (k+1)) (Dq q (C4 q x).1) true:=by
 obtain⟨hk,rfl⟩:=BZ.1 hx;rw[List.drop_eq_getElem_cons hk,DB]
theorem HK (n:Nat):Ds (List.replicate n 0):=fun x hx=>by rw[(List.mem_replicate.1 hx).2];omega
end Go.Proofs.YtnjedabjbeipeaaGreat
