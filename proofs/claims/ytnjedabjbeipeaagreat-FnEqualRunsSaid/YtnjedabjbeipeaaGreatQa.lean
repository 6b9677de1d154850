/-
  Numbers and their bits. Plain lemmas, about no function of the program.
  Conditions: those typed in each theorem.
-/
import Derived.IntWalk
import Derived.Test.YtnjedabjbeipeaaGreatV6
namespace Go.Proofs.YtnjedabjbeipeaaGreat
open Go.RowKit Go.ChangeShapes Go.WideShapes
set_option linter.unusedSimpArgs false
set_option linter.unusedVariables false
set_option maxRecDepth 100000
set_option maxHeartbeats 10000000
theorem EE (a:Int):(BitVec.ofInt 64 a).toNat=(a % 18446744073709551616).toNat:=by simp
theorem CC (a:Int):CR a 1=a % 2:=by
 unfold CR;rw[BitVec.toNat_and,EE,EE,show ((1:Int) % 18446744073709551616).toNat=1 from rfl,Nat.and_one_is_mod,Ad (by omega) (by omega)];omega
theorem VP (a:Int):CR a 3=a % 4:=by
 unfold CR;rw[BitVec.toNat_and,EE,EE,show ((3:Int) % 18446744073709551616).toNat=2 ^ 2 - 1 from rfl,Nat.and_two_pow_sub_one_eq_mod,Ad (by omega) (by omega)];omega
theorem Et {a:Int} (h:0≤a∧a≤1):a=0∨a=1:=by omega
theorem RY {a b:Int} (ha:0≤a∧a≤1) (hb:0≤b∧b≤1):CR a b=a*b:=by
 rcases Et ha with rfl|rfl<;>rcases Et hb with rfl|rfl<;>decide
theorem RL {a b:Int} (ha:0≤a∧a≤1) (hb:0≤b∧b≤1):Bl a b=(a+b) % 2:=by
 rcases Et ha with rfl|rfl<;>rcases Et hb with rfl|rfl<;>decide
theorem gI {a:Int} {k:Nat} (ha:0≤a) (hk:k≤62) (h:a*2 ^ k≤9223372036854775807):EC a k=a*2 ^ k:=by
 unfold EC;rw[Int.toNat_natCast,Nat.min_eq_left (by omega)];have:0≤a*2 ^ k:=Int.mul_nonneg ha (Int.le_of_lt (Int.pow_pos (by omega)));exact Ad (by omega) h
theorem Yn {k n:Nat} (h:k≤n):(2:Int) ^ k≤2 ^ n:=by
 have:=ABy (show 0<2 by omega) h
 exact_mod_cast this
theorem MJ {b:Int} {k:Nat} (hb:0≤b∧b≤1) (hk:k≤62):EC b k=b*2 ^ k:=by
 refine gI hb.1 hk ?_;have h62:=Yn hk;have:(2:Int) ^ 62=4611686018427387904:=by decide
 rcases Et hb with rfl|rfl<;>omega
theorem EP {a:Int} (h0:0≤a) (h1:a<18446744073709551616):(BitVec.ofInt 64 a).toNat=a.toNat:=by
 rw[EE,Int.emod_eq_of_lt h0 h1]
theorem eV {a b:Int} {k:Nat} (ha:0≤a∧a<2 ^ k) (hb:0≤b∧b≤1) (hk:k≤61):XR a (b*2 ^ k)=a+b*2 ^ k:=by
 have h62:=Yn hk;have e62:(2:Int) ^ 61=2305843009213693952:=by decide
 have hp:(0:Int)<2 ^ k:=Int.pow_pos (by omega);unfold XR;rcases Et hb with rfl|rfl
 · rw[BitVec.toNat_or,EP ha.1 (by omega),show (0:Int)*2 ^ k=0 by omega];simp;rw[Ad (by omega) (by omega)];omega
 · rw[BitVec.toNat_or,EP ha.1 (by omega),Int.one_mul,EP (by omega) (by omega)]
   have e:((2:Int) ^ k).toNat=2 ^ k:=by
    have:((2:Int) ^ k)=((2 ^ k:Nat):Int):=by simp
    rw[this,Int.toNat_natCast]
   have hlt:a.toNat<2 ^ k:=by rw[←e];omega
   rw[e,Nat.or_comm,show 2 ^ k=2 ^ k*1 by omega,←Nat.two_pow_add_eq_or_of_lt hlt,Nat.mul_one];have e2:(((2 ^ k:Nat)):Int)=2 ^ k:=by simp
   rw[Int.natCast_add,e2,Ad (by omega) (by omega)];omega
def Af (x:Int):Int:=if x % 2=0 then x+1 else x - 1
theorem Bo {a:Int} (h0:0≤a) (h1:a<4611686018427387904):Bl a 1=Af a:=by
 unfold Bl Af;rw[BitVec.toNat_xor,EP h0 (by omega),show (BitVec.ofInt 64 1).toNat=1 from rfl];obtain⟨n,rfl⟩:∃ n:Nat,a=n:=⟨a.toNat,by omega⟩;rw[Int.toNat_natCast];have h:=Nat.div_add_mod n 2;have h1:=Nat.div_add_mod (n ^^^ 1) 2;have h2:(n ^^^ 1) / 2=n / 2:=by rw[Nat.xor_div_two];simp
 have h3:=Nat.xor_mod_two_eq_one (a:=n) (b:=1);rw[Ad (by omega) (by omega)];split<;>omega
theorem PR {a:Int} (h0:0≤a) (h1:a<4611686018427387904):Bl a 0=a:=by
 unfold Bl;rw[BitVec.toNat_xor,EP h0 (by omega),show (BitVec.ofInt 64 0).toNat=0 from rfl,Nat.xor_zero,Ad (by omega) (by omega)];omega
theorem M5 {a:Int} (h0:0≤a) (h1:a≤9223372036854775807):IntKind.i64.wrap (a.tdiv 2)=a / 2:=by
 rw[Int.tdiv_eq_ediv_of_nonneg h0,Ad (by omega) (by omega)]
theorem M8 {a:Int} (h0:0≤a) (h1:a≤9223372036854775807):IntKind.u64.wrap a=a:=by
 have:=IntWalk.u64_in a;exact this ⟨h0,by omega⟩
def Uz (x:Int) (k:Nat):Int:=Dm x k % 2
theorem XW (x:Int) (k:Nat):0≤Uz x k∧Uz x k≤1:=by unfold Uz;omega
theorem Ze (x:Int) (k:Nat):CR (Dm x k) 1=Uz x k:=CC _
theorem EN (n lo hi:Int):Bx Tryz.prog 45 [.d (.int .i64 n),.d (.int .i64 lo),.d (.int .i64 hi)] (.d (.bool (DM n lo hi))):=by
 refine A5 (by kernel_rfl) Tryz.func45 rfl rfl rfl ?_;simp[E7,Kr,↓BQ,↓BM,BQ,BM,He,Fe,Ht,DN,Hv,EZ,Gh,ER,EK,DR,Oc,GH,St.get,St.put,St.eval,Gj,evalT,LE,Mz,JN,dZ,Gd,DM];constructor<;>intro h<;>simp[Nf,Ga,OC,G3,HZ,CK,St.get,h]<;>omega
theorem AP {n lo hi:Int}:DM n lo hi=true↔lo≤n∧n≤hi:=by simp[DM]
def IB (xs:List Int) (n:Int):Bool:=xs.all fun x=>DM x 0 (n - 1)
def Fi (n:Int):Int:=if n=0 then 1 else if n=1 then 3 else if n=2 then 15 else if n=3 then 255 else 65535
def Dq (n b:Int):Bool:=DM n 0 4&&DM b 0 (Fi n)
theorem ABR {n:Int} (h:DM n 0 4=true):n=0∨n=1∨n=2∨n=3∨n=4:=by have:=AP.1 h;omega
theorem QL {n:Nat} {b:Int} (h:Dq n b=true):n≤4:=by
 simp only[Dq,Bool.and_eq_true] at h;have:=AP.1 h.1;omega
theorem Ss (n:Int) (h:DM n 0 4=true):Bx Tryz.prog 113 [.d (.int .i64 n)] (.d (.int .i64 (Fi n))):=by
 rcases ABR h with rfl|rfl|rfl|rfl|rfl
 all_goals
  refine A5 (by kernel_rfl) Tryz.func113 rfl rfl rfl ?_;simp[E7,Kr,He,Fe,Ht,DN,EZ,DR,GH,St.get,St.put,St.eval,Gj,evalT,V4,Wv,S6,dZ,CK,Gd,M8,(by decide:EC 1 1=2),(by decide:EC 1 2=4),(by decide:EC 1 4=16),(by decide:EC 1 8=256),(by decide:EC 1 16=65536),Nf,Ga,OC,G3,HZ,CK,St.get,Fi,Ad]
theorem Jj (n b:Int):Bx Tryz.prog 111 [.agg [.int .i64 n,.int .i64 b]] (.d (.bool (Dq n b))):=by
 refine A5 (by kernel_rfl) Tryz.func111 rfl rfl rfl ?_;simp[Lz,E7,Kr,Fe,DN,Ip,Ev,To,Mo,DR,GH,St.get,St.put,St.eval,Gj,evalT,Ih,H0,CZ,dZ,GY,Q9,Ei,Bg,V.cell];refine⟨by kernel_rfl,?_⟩;refine Ab (EN _ _ _) ?_;simp only[FM,inst,HE,F9];simp[↓BQ,↓BM,BQ,BM,He,Fe,Ht,DN,Hv,EZ,Ip,Ev,Mo,Gh,ER,EK,DR,Oc,GH,St.get,St.put,St.eval,Gj,evalT,Mz,JN,Ih,H0,CZ,GY,Q9,Ei,Gd];rcases ABu (DM n 0 4) with h|h
 case inr=>simp[↓BM,BM,St.get,CK,h,Nf,Ga,OC,G3,HZ,CK,St.get,Dq]
 by_cases hb:0≤b
 · have hr:DM b 0 (Fi n)=decide (b≤Fi n):=by simp[DM,hb]
   simp[↓BQ,BQ,h,hb];refine Ab (Ss n h) ?_;simp only[FM,inst,HE,F9];simp[↓BQ,BQ,He,Fe,DN,Hv,EZ,Gh,ER,EK,DR,Oc,GH,St.get,St.put,St.eval,Gj,evalT,LE,JN,CK,Gd,Nf,Ga,OC,G3,HZ,CK,St.get,Dq,h,hr]
 · have hr:DM b 0 (Fi n)=false:=by simp[DM];omega
   simp[↓BQ,↓BM,BQ,BM,St.get,CK,h,hb,Nf,Ga,OC,G3,HZ,CK,St.get,Dq,hr]
def Bz (x:Cr):Bool :=
 if x.1=0 then DM x.2.1 0 1&&decide (x.2.2.length=1) else if x.1=1 then DM x.2.1 0 31&&decide (x.2.2.length=4) else false
theorem aG (x:Cr):Bx Tryz.prog 64 [.agg (AY x)] (.d (.bool (Bz x))):=by
 refine A5 (by kernel_rfl) Tryz.func64 rfl rfl rfl ?_;simp[WN,E7,Kr,V7,Qg,Kb,RS,He,Fe,DN,EZ,Ip,Ev,To,Mo,DR,GH,Hr,St.get,St.put,St.eval,Gj,evalT,MA,Ih,H0,CZ,dZ,GY,Q9,Ei,Bg,V.cell,Dh,e3,AC,Gd,AY];by_cases h0:x.1=0
 · simp[h0];refine Ab (E8 _ _ _) ?_;simp only[FM,inst,HE,F9];simp[↓BQ,↓BM,BQ,BM,He,Fe,Ht,DN,Hv,EZ,Um,Ip,Ev,Gh,ER,EK,DR,Oc,lY,GH,Hr,St.get,St.put,St.eval,Gj,evalT,MA,JN,Ke,Ih,H0,CZ,Gd];rcases ABu (DM x.2.1 0 1) with h|h<;>simp[↓BQ,↓BM,BQ,BM,St.get,CK,h,Nf,Ga,OC,G3,HZ,CK,St.get,Bz,h0];by_cases h2:x.2.2.length=1<;>simp[h2]<;>omega
 by_cases h1:x.1=1
 · simp[h1];refine Ab (E8 _ _ _) ?_;simp only[FM,inst,HE,F9];simp[↓BQ,↓BM,BQ,BM,He,Fe,Ht,DN,Hv,EZ,Um,Ip,Ev,Gh,ER,EK,DR,Oc,lY,GH,Hr,St.get,St.put,St.eval,Gj,evalT,MA,JN,Ke,Ih,H0,CZ,Gd];rcases ABu (DM x.2.1 0 31) with h|h<;>simp[↓BQ,↓BM,BQ,BM,St.get,CK,h,Nf,Ga,OC,G3,HZ,CK,St.get,Bz,h1];by_cases h2:x.2.2.length=4<;>simp[h2]<;>omega
 · simp[St.get,CK,h0,h1,Nf,Ga,OC,G3,HZ,CK,St.get,Bz]
def GZ (v l:Int):Bool:=!(l==0)&&DM l (-v) v
def CY (v:Int) (cl:List Int):Bool:=decide (cl.length≤400)&&cl.all (GZ v)
def FX (v:Int) (cls:List (List Int)):Bool:=DM v 0 400&&decide (cls.length≤1600)&&cls.all (CY v)
def E6 (asg:List Bool) (x:Int):Bool:=if 0<x then asg[(x - 1).toNat]?==some true else if x<0 then asg[(-x - 1).toNat]?==some false else false
def Eb (asg:List Bool) (cl:List Int):Bool:=cl.any (E6 asg)
theorem GW {v:Int} {cls:List (List Int)} (h:FX v cls=true):0≤v∧v≤400:=by
 unfold FX at h;simp only[Bool.and_eq_true] at h;exact AP.1 h.1.1
def DV (p:List Int) (l:Int):Int:=if l<0 then -(p.getD (-l - 1).toNat 0) else p.getD (l - 1).toNat 0
def DQ (p:List Int):List Int→Int→Int×Bool
 | [],u=>(u,u==0)
 | l::ls,u=>if DV p l=1 then (0,false) else if DV p l=0 then (if u≠0∧u≠l then (0,false) else DQ p ls l) else DQ p ls u
def CU (p cl:List Int):Int×Bool:=DQ p cl 0
def Dg (p:List Int) (u:Int):List Int:=if 0<u then p.set (u - 1).toNat 1 else if u<0 then p.set (-u - 1).toNat (-1) else p
def Dt:List (List Int)→List Int→Bool→Option (List Int×Bool)
 | [],p,ch=>some (p,ch)
 | c::cs,p,ch=>if (CU p c).2=true then none else if (CU p c).1=0 then Dt cs p ch else Dt cs (Dg p (CU p c).1) true
def Eh (p:List Int):Nat:=p.count 0
def ET (cls:List (List Int)) (p:List Int):Option (List Int) :=
 match Dt cls p false with
 | none=>none
 | some (p',ch)=>if ch=true∧Eh p'<Eh p then ET cls p' else some p'
termination_by Eh p
def Dj (p:List Int):Prop:=∀ x∈p,-1≤x∧x≤1
def Ep (n:Nat) (l:Int):Prop:=l≠0∧-(n:Int)≤l∧l≤n
def CA (n:Nat) (cls:List (List Int)):Prop:=∀ c∈cls,∀ l∈c,Ep n l
theorem Ed (p:List Int) (u:Int):(Dg p u).length=p.length:=by unfold Dg;split<;>(try split)<;>simp
theorem Zi {p:List Int} {i:Nat} (h:i<p.length):p.getD i 0=p[i]:=by simp[List.getD,zz0 h]
theorem DG {p:List Int} (h:Dj p) (i:Nat) {x:Int} (hx:-1≤x∧x≤1):Dj (p.set i x):=by
 intro y hy;rcases List.mem_or_eq_of_mem_set hy with h1|h1
 · exact h y h1
 · rw[h1];exact hx
theorem EY {p:List Int} (h:Dj p) (u:Int):Dj (Dg p u):=by
 unfold Dg;split
 · exact DG h _ (by omega)
 · split
   · exact DG h _ (by omega)
   · exact h
theorem Ly {p:List Int}:∀ {cl:List Int} {u0 u:Int} {c:Bool},DQ p cl u0=(u,c)→u=0∨u=u0∨(u∈cl∧DV p u=0)
 | [],u0,u,c,h=>by
   simp only[DQ,Prod.mk.injEq] at h;exact .inr (.inl h.1.symm)
 | l::ls,u0,u,c,h=>by
   unfold DQ at h;split at h
   · simp only[Prod.mk.injEq] at h;exact .inl h.1.symm
   · split at h
     · rename_i h0;split at h
       · simp only[Prod.mk.injEq] at h;exact .inl h.1.symm
       · rcases Ly h with h1|h1|h1
         · exact .inl h1
         · subst h1;exact .inr (.inr ⟨by simp,h0⟩)
         · exact .inr (.inr ⟨by simp[h1.1],h1.2⟩)
     · rcases Ly h with h1|h1|h1
       · exact .inl h1
       · exact .inr (.inl h1)
       · exact .inr (.inr ⟨by simp[h1.1],h1.2⟩)
theorem Hx {p cl:List Int} (h:(CU p cl).1≠0):(CU p cl).1∈cl∧DV p (CU p cl).1=0:=by
 rcases Ly (p:=p) (cl:=cl) (u0:=0) (u:=(CU p cl).1) (c:=(CU p cl).2) rfl with h1|h1|h1
 · exact absurd h1 h
 · exact absurd h1 h
 · exact h1
theorem LR {p:List Int} {i:Nat} (h:i<p.length) (h0:p[i]=0) {x:Int} (hx:x≠0):(p.set i x).count 0+1=p.count 0:=by
 have e:p=p.take i++p[i]::p.drop (i+1):=by rw[List.getElem_cons_drop,List.take_append_drop]
 have e2:p.set i x=p.take i++x::p.drop (i+1):=by rw[List.set_eq_take_append_cons_drop,if_pos h]
 rw[e2]
 conv=>rhs;rw[e]
 rw[List.count_append,List.count_append,List.count_cons,List.count_cons,h0];have:(x==(0:Int))=false:=beq_eq_false_iff_ne.2 hx;simp[this];omega
theorem TU {p:List Int} {u:Int} (hu:Ep p.length u) (h0:DV p u=0):Eh (Dg p u)+1=Eh p:=by
 obtain⟨hne,hlo,hhi⟩:=hu;unfold Eh Dg;unfold DV at h0;by_cases hp:0<u
 · rw[if_pos hp];rw[if_neg (by omega)] at h0;have hi:(u - 1).toNat<p.length:=by omega
   rw[Zi hi] at h0;exact LR hi h0 (by omega)
 · rw[if_neg hp,if_pos (by omega)];rw[if_pos (by omega)] at h0;have hi:(-u - 1).toNat<p.length:=by omega
   rw[Zi hi] at h0;exact LR hi (by omega) (by omega)
theorem EH:∀ {cls:List (List Int)} {p p':List Int} {ch ch':Bool},CA p.length cls→Dj p→Dt cls p ch=some (p',ch') →
 p'.length=p.length∧Dj p'∧Eh p'≤Eh p∧(ch'=true→ch=false→Eh p'<Eh p)∧(ch=true→ch'=true)
 | [],p,p',ch,ch',_,ht,h=>by
   simp only[Dt,Option.some.injEq,Prod.mk.injEq] at h;obtain⟨rfl,rfl⟩:=h;exact⟨rfl,ht,Nat.le_refl _,(fun h1 h2=>by rw[h1] at h2;cases h2),id⟩
 | c::cs,p,p',ch,ch',hc,ht,h=>by
   unfold Dt at h;split at h
   · cases h
   · split at h
     · exact EH (fun d hd=>hc d (by simp[hd])) ht h
     · rename_i hu;obtain⟨hm,hv⟩:=Hx hu;have hz:=TU (hc c (by simp) _ hm) hv;obtain⟨h1,h2,h3,h4,h5⟩:=EH (by rw[Ed];exact fun d hd=>hc d (by simp[hd])) (EY ht _) h;rw[Ed] at h1;exact⟨h1,h2,by omega,fun _ _=>by omega,fun _=>h5 rfl⟩
theorem Jd {cls:List (List Int)} {p:List Int} (hc:CA p.length cls) (ht:Dj p) :
 ET cls p=match Dt cls p false with
  | none=>none
  | some (p',true)=>ET cls p'
  | some (p',false)=>some p':=by
 rw[ET]
 cases h:Dt cls p false with
 | none=>rfl
 | some r =>
   obtain⟨p',ch⟩:=r
   cases ch with
   | false=>simp
   | true =>
     obtain⟨_,_,_,h4,_⟩:=EH hc ht h;simp[h4 rfl rfl]
theorem C2 {cls:List (List Int)} {p p':List Int} (hc:CA p.length cls) (ht:Dj p) (h:ET cls p=some p'):p'.length=p.length∧Dj p'∧Eh p'≤Eh p:=by
 generalize hn:Eh p=n
 induction n using Nat.strongRecOn generalizing p with
 | _ n ih =>
   subst hn;rw[Jd hc ht] at h
   cases hp:Dt cls p false with
   | none=>rw[hp] at h;cases h
   | some r =>
     obtain⟨q,ch⟩:=r;rw[hp] at h;obtain⟨h1,h2,h3,h4,_⟩:=EH hc ht hp
     cases ch with
     | false =>
       simp only[Option.some.injEq] at h;subst h;exact⟨h1,h2,h3⟩
     | true =>
       obtain⟨a,b,c⟩:=ih _ (h4 rfl rfl) (by rw[h1];exact hc) h2 h rfl;exact⟨a.trans h1,b,by omega⟩
theorem aS {n:Nat} {l:Int}:GZ n l=true↔Ep n l:=by
 unfold GZ Ep;simp only[Bool.and_eq_true,Bool.not_eq_true',beq_eq_false_iff_ne,AP]
theorem Q5 {n:Nat} {cl:List Int} (h:CY n cl=true):∀ l∈cl,Ep n l:=by
 unfold CY at h;rw[Bool.and_eq_true,zz8] at h;exact fun l hl=>aS.1 (h.2 l hl)
theorem Gv {n:Nat} {cls:List (List Int)} (h:FX n cls=true):CA n cls:=by
 unfold FX at h;rw[Bool.and_eq_true,zz8] at h;exact fun c hc=>Q5 (h.2 c hc)
theorem Ee (q:List Int) (m:Nat):Dg q ((m:Int)+1)=q.set m 1:=by
 unfold Dg;rw[if_pos (by omega)]
 congr 1
 omega
theorem Ef (q:List Int) (m:Nat):Dg q (-((m:Int)+1))=q.set m (-1):=by
 unfold Dg;rw[if_neg (by omega),if_pos (by omega)]
 congr 1
 omega
theorem eM {cls:List (List Int)} {k:Nat} {x:List Int} (hx:cls[k]? = some x) (q:List Int) (b:Bool) :
 Dt (cls.drop k) q b=if (CU q x).2=true then none else if (CU q x).1=0 then Dt (cls.drop (k+1)) q b else Dt (cls.drop (k+1)) (Dg q (CU q x).1) true:=by
 obtain⟨hk,rfl⟩:=zz1.1 hx;rw[List.drop_eq_getElem_cons hk,Dt]
theorem Hh (n:Nat):Dj (List.replicate n 0):=fun x hx=>by rw[(List.mem_replicate.1 hx).2];omega
end Go.Proofs.YtnjedabjbeipeaaGreat
