/-
  Numbers and their bits. Plain lemmas, about no function of the program.
  Conditions: those typed in each theorem.
-/
import Derived.IntWalk
import Derived.Test.YtnjedabjbeipeaaV6
namespace Go.Proofs.Ytnjedabjbeipeaa
open Go.RowKit Go.ChangeShapes Go.WideShapes
set_option linter.unusedSimpArgs false
set_option linter.unusedVariables false
set_option maxRecDepth 100000
set_option maxHeartbeats 10000000
theorem GD (a:Int):(BitVec.ofInt 64 a).toNat=(a % 18446744073709551616).toNat:=by simp
theorem Fm (a:Int):Cp a 1=a % 2:=by
 unfold Cp;rw[BitVec.toNat_and,GD,GD,show ((1:Int) % 18446744073709551616).toNat=1 from rfl,Nat.and_one_is_mod,Af (by omega) (by omega)];omega
theorem D6 {a:Int} (h:0≤a∧a≤1):a=0∨a=1:=by omega
theorem ZZ {a b:Int} (ha:0≤a∧a≤1) (hb:0≤b∧b≤1):Cp a b=a*b:=by
 rcases D6 ha with rfl|rfl<;>rcases D6 hb with rfl|rfl<;>decide
theorem RV {a b:Int} (ha:0≤a∧a≤1) (hb:0≤b∧b≤1):Bd a b=(a+b) % 2:=by
 rcases D6 ha with rfl|rfl<;>rcases D6 hb with rfl|rfl<;>decide
theorem jP {a:Int} {k:Nat} (ha:0≤a) (hk:k≤62) (h:a*2 ^ k≤9223372036854775807):IF a k=a*2 ^ k:=by
 unfold IF;rw[Int.toNat_natCast,Nat.min_eq_left (by omega)];have:0≤a*2 ^ k:=Int.mul_nonneg ha (Int.le_of_lt (Int.pow_pos (by omega)));exact Af (by omega) h
theorem fO {k n:Nat} (h:k≤n):(2:Int) ^ k≤2 ^ n:=by
 have:=ACU (show 0<2 by omega) h
 exact_mod_cast this
theorem bY {b:Int} {k:Nat} (hb:0≤b∧b≤1) (hk:k≤62):IF b k=b*2 ^ k:=by
 refine jP hb.1 hk ?_;have h62:=fO hk;have:(2:Int) ^ 62=4611686018427387904:=by decide
 rcases D6 hb with rfl|rfl<;>omega
theorem Er {a:Int} (h0:0≤a) (h1:a<18446744073709551616):(BitVec.ofInt 64 a).toNat=a.toNat:=by
 rw[GD,Int.emod_eq_of_lt h0 h1]
theorem eH {a b:Int} {k:Nat} (ha:0≤a∧a<2 ^ k) (hb:0≤b∧b≤1) (hk:k≤61):dZ a (b*2 ^ k)=a+b*2 ^ k:=by
 have h62:=fO hk;have e62:(2:Int) ^ 61=2305843009213693952:=by decide
 have hp:(0:Int)<2 ^ k:=Int.pow_pos (by omega);unfold dZ;rcases D6 hb with rfl|rfl
 · rw[BitVec.toNat_or,Er ha.1 (by omega),show (0:Int)*2 ^ k=0 by omega];simp;rw[Af (by omega) (by omega)];omega
 · rw[BitVec.toNat_or,Er ha.1 (by omega),Int.one_mul,Er (by omega) (by omega)]
   have e:((2:Int) ^ k).toNat=2 ^ k:=by
    have:((2:Int) ^ k)=((2 ^ k:Nat):Int):=by simp
    rw[this,Int.toNat_natCast]
   have hlt:a.toNat<2 ^ k:=by rw[←e];omega
   rw[e,Nat.or_comm,show 2 ^ k=2 ^ k*1 by omega,←Nat.two_pow_add_eq_or_of_lt hlt,Nat.mul_one];have e2:(((2 ^ k:Nat)):Int)=2 ^ k:=by simp
   rw[Int.natCast_add,e2,Af (by omega) (by omega)];omega
def Ad (x:Int):Int:=if x % 2=0 then x+1 else x - 1
theorem A8 {a:Int} (h0:0≤a) (h1:a<4611686018427387904):Bd a 1=Ad a:=by
 unfold Bd Ad;rw[BitVec.toNat_xor,Er h0 (by omega),show (BitVec.ofInt 64 1).toNat=1 from rfl];obtain⟨n,rfl⟩:∃ n:Nat,a=n:=⟨a.toNat,by omega⟩;rw[Int.toNat_natCast];have h:=Nat.div_add_mod n 2;have h1:=Nat.div_add_mod (n ^^^ 1) 2;have h2:(n ^^^ 1) / 2=n / 2:=by rw[Nat.xor_div_two];simp
 have h3:=Nat.xor_mod_two_eq_one (a:=n) (b:=1);rw[Af (by omega) (by omega)];split<;>omega
theorem Hl {a:Int} (h0:0≤a) (h1:a<4611686018427387904):Bd a 0=a:=by
 unfold Bd;rw[BitVec.toNat_xor,Er h0 (by omega),show (BitVec.ofInt 64 0).toNat=0 from rfl,Nat.xor_zero,Af (by omega) (by omega)];omega
theorem Fb {a:Int} (h0:0≤a) (h1:a≤9223372036854775807):IntKind.u64.wrap a=a:=by
 have:=IntWalk.u64_in a;exact this ⟨h0,by omega⟩
def GF (x:Int) (k:Nat):Int:=DB x k % 2
theorem Qg (x:Int) (k:Nat):0≤GF x k∧GF x k≤1:=by unfold GF;omega
theorem Lo (x:Int) (k:Nat):Cp (DB x k) 1=GF x k:=Fm _
theorem AN {n lo hi:Int}:rng n lo hi=true↔lo≤n∧n≤hi:=by simp[rng]
def MN (xs:List Int) (n:Int):Bool:=xs.all fun x=>rng x 0 (n - 1)
def gO (n:Int):Int:=if n=0 then 1 else if n=1 then 3 else if n=2 then 15 else if n=3 then 255 else 65535
def Dg (n b:Int):Bool:=rng n 0 4&&rng b 0 (gO n)
theorem AB2 {n:Int} (h:rng n 0 4=true):n=0∨n=1∨n=2∨n=3∨n=4:=by have:=AN.1 h;omega
theorem Hq {n:Nat} {b:Int} (h:Dg n b=true):n≤4:=by
 simp only[Dg,Bool.and_eq_true] at h;have:=AN.1 h.1;omega
theorem GX (n b:Int):CI Try.prog 50 [.agg [.int .i64 n,.int .i64 b]] (.d (.bool (Dg n b))):=by
 refine BD (by kernel_rfl) Try.func50 rfl rfl rfl ?_;simp[GV,OB,Gp,Et,Ic,D7,Sv,LS,DS,HC,St.get,St.put,St.eval,GN,evalT,Ik,HX,CK,WP,GT,Q5,DU,Ba,V.cell];refine Ab (CU _ _ _) ?_;simp only[FA,inst,Ht,FO];simp[↓Cn,↓B0,Cn,B0,Jd,Gp,Kg,Et,IJ,FT,NI,Ic,D7,Hd,Fk,Fw,DS,Pi,jE,HC,St.get,St.put,St.eval,GN,evalT,Ro,KO,Ik,HX,CK,GS];rcases ACS (rng n 0 4) with h|h
 case inr=>simp[↓B0,B0,St.get,CT,h,Q8,Hy,TD,Io,JW,CT,St.get,Dg]
 rcases AB2 h with rfl|rfl|rfl|rfl|rfl<;>simp[↓Cn,Cn,FT,LS,Hd,Fk,Fw,DS,St.get,St.put,St.eval,GN,VF,UK,GT,Q5,DU,GS,h,Fb,(by decide:IF 1 1=2),(by decide:IF 1 2=4),(by decide:IF 1 4=16),(by decide:IF 1 8=256),(by decide:IF 1 16=65536)]
 all_goals
  refine Ab (CU _ _ _) ?_;simp only[FA,inst,Ht,FO];simp[Jd,Gp,Et,IJ,DS,Pi,HC,St.get,St.put,St.eval,GN,evalT,KO,CT,Q8,Hy,TD,Io,JW,CT,St.get,Dg,h,gO,Af]
def Dn (x:Dl):Bool :=
 if x.1=0 then rng x.2.1 0 1&&decide (x.2.2.length=1) else if x.1=1 then rng x.2.1 0 31&&decide (x.2.2.length=4) else false
theorem bG (x:Dl):CI Try.prog 90 [.agg (A7 x)] (.d (.bool (Dn x))):=by
 refine BD (by kernel_rfl) Try.func90 rfl rfl rfl ?_;simp[U7,GV,OB,Wp,O2,J5,RL,Jd,Gp,Et,FT,Ic,D7,Sv,LS,DS,HC,Hw,St.get,St.put,St.eval,GN,evalT,L9,Ik,HX,CK,WP,GT,Q5,DU,Ba,V.cell,B3,e3,Az,GS,A7];by_cases h0:x.1=0
 · simp[h0];refine Ab (CU _ _ _) ?_;simp only[FA,inst,Ht,FO];simp[↓Cn,↓B0,Cn,B0,Jd,Gp,Kg,Et,IJ,FT,Tu,Ic,D7,Hd,Fk,Fw,DS,Pi,nG,HC,Hw,St.get,St.put,St.eval,GN,evalT,L9,KO,Jx,Ik,HX,CK,GS];rcases ACS (rng x.2.1 0 1) with h|h<;>simp[↓Cn,↓B0,Cn,B0,St.get,CT,h,Q8,Hy,TD,Io,JW,CT,St.get,Dn,h0];by_cases h2:x.2.2.length=1<;>simp[h2]<;>omega
 by_cases h1:x.1=1
 · simp[h1];refine Ab (CU _ _ _) ?_;simp only[FA,inst,Ht,FO];simp[↓Cn,↓B0,Cn,B0,Jd,Gp,Kg,Et,IJ,FT,Tu,Ic,D7,Hd,Fk,Fw,DS,Pi,nG,HC,Hw,St.get,St.put,St.eval,GN,evalT,L9,KO,Jx,Ik,HX,CK,GS];rcases ACS (rng x.2.1 0 31) with h|h<;>simp[↓Cn,↓B0,Cn,B0,St.get,CT,h,Q8,Hy,TD,Io,JW,CT,St.get,Dn,h1];by_cases h2:x.2.2.length=4<;>simp[h2]<;>omega
 · simp[St.get,CT,h0,h1,Q8,Hy,TD,Io,JW,CT,St.get,Dn]
def Ij (v l:Int):Bool:=!(l==0)&&rng l (-v) v
def CL (v:Int) (cl:List Int):Bool:=decide (cl.length≤400)&&cl.all (Ij v)
def Fc (v:Int) (cls:List (List Int)):Bool:=rng v 0 400&&decide (cls.length≤1600)&&cls.all (CL v)
def Jh (asg:List Bool) (x:Int):Bool:=if 0<x then asg[(x - 1).toNat]?==some true else if x<0 then asg[(-x - 1).toNat]?==some false else false
def NB (asg:List Bool) (cl:List Int):Bool:=cl.any (Jh asg)
theorem GL {v:Int} {cls:List (List Int)} (h:Fc v cls=true):0≤v∧v≤400:=by
 unfold Fc at h;simp only[Bool.and_eq_true] at h;exact AN.1 h.1.1
def Bq (p:List Int) (l:Int):Int:=if l<0 then -(p.getD (-l - 1).toNat 0) else p.getD (l - 1).toNat 0
def Dm (p:List Int):List Int→Int→Int×Bool
 | [],u=>(u,u==0)
 | l::ls,u=>if Bq p l=1 then (0,false) else if Bq p l=0 then (if u≠0∧u≠l then (0,false) else Dm p ls l) else Dm p ls u
def B8 (p cl:List Int):Int×Bool:=Dm p cl 0
def Co (p:List Int) (u:Int):List Int:=if 0<u then p.set (u - 1).toNat 1 else if u<0 then p.set (-u - 1).toNat (-1) else p
def DA:List (List Int)→List Int→Bool→Option (List Int×Bool)
 | [],p,ch=>some (p,ch)
 | c::cs,p,ch=>if (B8 p c).2=true then none else if (B8 p c).1=0 then DA cs p ch else DA cs (Co p (B8 p c).1) true
def CV (p:List Int):Nat:=p.count 0
def En (cls:List (List Int)) (p:List Int):Option (List Int) :=
 match DA cls p false with
 | none=>none
 | some (p',ch)=>if ch=true∧CV p'<CV p then En cls p' else some p'
termination_by CV p
def Cj (p:List Int):Prop:=∀ x∈p,-1≤x∧x≤1
def Cu (n:Nat) (l:Int):Prop:=l≠0∧-(n:Int)≤l∧l≤n
def BK (n:Nat) (cls:List (List Int)):Prop:=∀ c∈cls,∀ l∈c,Cu n l
theorem CG (p:List Int) (u:Int):(Co p u).length=p.length:=by unfold Co;split<;>(try split)<;>simp
theorem Yz {p:List Int} {i:Nat} (h:i<p.length):p.getD i 0=p[i]:=by simp[List.getD,zz0 h]
theorem D3 {p:List Int} (h:Cj p) (i:Nat) {x:Int} (hx:-1≤x∧x≤1):Cj (p.set i x):=by
 intro y hy;rcases List.mem_or_eq_of_mem_set hy with h1|h1
 · exact h y h1
 · rw[h1];exact hx
theorem Dt {p:List Int} (h:Cj p) (u:Int):Cj (Co p u):=by
 unfold Co;split
 · exact D3 h _ (by omega)
 · split
   · exact D3 h _ (by omega)
   · exact h
theorem Lc {p:List Int}:∀ {cl:List Int} {u0 u:Int} {c:Bool},Dm p cl u0=(u,c)→u=0∨u=u0∨(u∈cl∧Bq p u=0)
 | [],u0,u,c,h=>by
   simp only[Dm,Prod.mk.injEq] at h;exact .inr (.inl h.1.symm)
 | l::ls,u0,u,c,h=>by
   unfold Dm at h;split at h
   · simp only[Prod.mk.injEq] at h;exact .inl h.1.symm
   · split at h
     · rename_i h0;split at h
       · simp only[Prod.mk.injEq] at h;exact .inl h.1.symm
       · rcases Lc h with h1|h1|h1
         · exact .inl h1
         · subst h1;exact .inr (.inr ⟨by simp,h0⟩)
         · exact .inr (.inr ⟨by simp[h1.1],h1.2⟩)
     · rcases Lc h with h1|h1|h1
       · exact .inl h1
       · exact .inr (.inl h1)
       · exact .inr (.inr ⟨by simp[h1.1],h1.2⟩)
theorem I9 {p cl:List Int} (h:(B8 p cl).1≠0):(B8 p cl).1∈cl∧Bq p (B8 p cl).1=0:=by
 rcases Lc (p:=p) (cl:=cl) (u0:=0) (u:=(B8 p cl).1) (c:=(B8 p cl).2) rfl with h1|h1|h1
 · exact absurd h1 h
 · exact absurd h1 h
 · exact h1
theorem Jj {p:List Int} {i:Nat} (h:i<p.length) (h0:p[i]=0) {x:Int} (hx:x≠0):(p.set i x).count 0+1=p.count 0:=by
 have e:p=p.take i++p[i]::p.drop (i+1):=by rw[List.getElem_cons_drop,List.take_append_drop]
 have e2:p.set i x=p.take i++x::p.drop (i+1):=by rw[List.set_eq_take_append_cons_drop,if_pos h]
 rw[e2]
 conv=>rhs;rw[e]
 rw[List.count_append,List.count_append,List.count_cons,List.count_cons,h0];have:(x==(0:Int))=false:=beq_eq_false_iff_ne.2 hx;simp[this];omega
theorem TC {p:List Int} {u:Int} (hu:Cu p.length u) (h0:Bq p u=0):CV (Co p u)+1=CV p:=by
 obtain⟨hne,hlo,hhi⟩:=hu;unfold CV Co;unfold Bq at h0;by_cases hp:0<u
 · rw[if_pos hp];rw[if_neg (by omega)] at h0;have hi:(u - 1).toNat<p.length:=by omega
   rw[Yz hi] at h0;exact Jj hi h0 (by omega)
 · rw[if_neg hp,if_pos (by omega)];rw[if_pos (by omega)] at h0;have hi:(-u - 1).toNat<p.length:=by omega
   rw[Yz hi] at h0;exact Jj hi (by omega) (by omega)
theorem Fy:∀ {cls:List (List Int)} {p p':List Int} {ch ch':Bool},BK p.length cls→Cj p→DA cls p ch=some (p',ch') →
 p'.length=p.length∧Cj p'∧CV p'≤CV p∧(ch'=true→ch=false→CV p'<CV p)∧(ch=true→ch'=true)
 | [],p,p',ch,ch',_,ht,h=>by
   simp only[DA,Option.some.injEq,Prod.mk.injEq] at h;obtain⟨rfl,rfl⟩:=h;exact⟨rfl,ht,Nat.le_refl _,(fun h1 h2=>by rw[h1] at h2;cases h2),id⟩
 | c::cs,p,p',ch,ch',hc,ht,h=>by
   unfold DA at h;split at h
   · cases h
   · split at h
     · exact Fy (fun d hd=>hc d (by simp[hd])) ht h
     · rename_i hu;obtain⟨hm,hv⟩:=I9 hu;have hz:=TC (hc c (by simp) _ hm) hv;obtain⟨h1,h2,h3,h4,h5⟩:=Fy (by rw[CG];exact fun d hd=>hc d (by simp[hd])) (Dt ht _) h;rw[CG] at h1;exact⟨h1,h2,by omega,fun _ _=>by omega,fun _=>h5 rfl⟩
theorem K5 {cls:List (List Int)} {p:List Int} (hc:BK p.length cls) (ht:Cj p) :
 En cls p=match DA cls p false with
  | none=>none
  | some (p',true)=>En cls p'
  | some (p',false)=>some p':=by
 rw[En]
 cases h:DA cls p false with
 | none=>rfl
 | some r =>
   obtain⟨p',ch⟩:=r
   cases ch with
   | false=>simp
   | true =>
     obtain⟨_,_,_,h4,_⟩:=Fy hc ht h;simp[h4 rfl rfl]
theorem CZ {cls:List (List Int)} {p p':List Int} (hc:BK p.length cls) (ht:Cj p) (h:En cls p=some p'):p'.length=p.length∧Cj p'∧CV p'≤CV p:=by
 generalize hn:CV p=n
 induction n using Nat.strongRecOn generalizing p with
 | _ n ih =>
   subst hn;rw[K5 hc ht] at h
   cases hp:DA cls p false with
   | none=>rw[hp] at h;cases h
   | some r =>
     obtain⟨q,ch⟩:=r;rw[hp] at h;obtain⟨h1,h2,h3,h4,_⟩:=Fy hc ht hp
     cases ch with
     | false =>
       simp only[Option.some.injEq] at h;subst h;exact⟨h1,h2,h3⟩
     | true =>
       obtain⟨a,b,c⟩:=ih _ (h4 rfl rfl) (by rw[h1];exact hc) h2 h rfl;exact⟨a.trans h1,b,by omega⟩
theorem Se {n:Nat} {l:Int}:Ij n l=true↔Cu n l:=by
 unfold Ij Cu;simp only[Bool.and_eq_true,Bool.not_eq_true',beq_eq_false_iff_ne,AN]
theorem Gb {n:Nat} {cl:List Int} (h:CL n cl=true):∀ l∈cl,Cu n l:=by
 unfold CL at h;rw[Bool.and_eq_true,zz8] at h;exact fun l hl=>Se.1 (h.2 l hl)
theorem ET {n:Nat} {cls:List (List Int)} (h:Fc n cls=true):BK n cls:=by
 unfold Fc at h;rw[Bool.and_eq_true,zz8] at h;exact fun c hc=>Gb (h.2 c hc)
theorem Em (q:List Int) (m:Nat):Co q ((m:Int)+1)=q.set m 1:=by
 unfold Co;rw[if_pos (by omega)]
 congr 1
 omega
theorem Da (q:List Int) (m:Nat):Co q (-((m:Int)+1))=q.set m (-1):=by
 unfold Co;rw[if_neg (by omega),if_pos (by omega)]
 congr 1
 omega
theorem dK {cls:List (List Int)} {k:Nat} {x:List Int} (hx:cls[k]? = some x) (q:List Int) (b:Bool) :
 DA (cls.drop k) q b=if (B8 q x).2=true then none else if (B8 q x).1=0 then DA (cls.drop (k+1)) q b else DA (cls.drop (k+1)) (Co q (B8 q x).1) true:=by
 obtain⟨hk,rfl⟩:=zz1.1 hx;rw[List.drop_eq_getElem_cons hk,DA]
def Hz:List Int→List Int→Option (List Int)
 | [],p=>some p
 | l::ls,p=>if Bq p l=1 then none else Hz ls (Co p (-l))
def Gv (v:Nat) (cls:List (List Int)) (cl:List Int):Bool :=
 match Hz cl (List.replicate v 0) with
 | none=>true
 | some p=>!(En cls p).isSome
theorem NG:∀ {cl p q:List Int},Hz cl p=some q→Cj p→q.length=p.length∧Cj q
 | [],p,q,h,ht=>by
   simp only[Hz,Option.some.injEq] at h;subst h;exact⟨rfl,ht⟩
 | l::ls,p,q,h,ht=>by
   unfold Hz at h;split at h
   · cases h
   · obtain⟨h1,h2⟩:=NG h (Dt ht _);exact⟨h1.trans (CG _ _),h2⟩
theorem FZ (n:Nat):Cj (List.replicate n 0):=fun x hx=>by rw[(List.mem_replicate.1 hx).2];omega
theorem eL {cl:List Int} {k:Nat} {x:Int} (hx:cl[k]? = some x) (p:List Int):Hz (cl.drop k) p=if Bq p x=1 then none else Hz (cl.drop (k+1)) (Co p (-x)):=by
 obtain⟨hk,rfl⟩:=zz1.1 hx;rw[List.drop_eq_getElem_cons hk,Hz]
theorem bC (q:List Int) (m:Nat):Co q (-((m:Int)+1))=q.set m (-1):=Da q m
theorem Ku (q:List Int) (m:Nat):Co q (- -((m:Int)+1))=q.set m 1:=by
 rw[Int.neg_neg];exact Em q m
end Go.Proofs.Ytnjedabjbeipeaa
