/-
  Prime cubes and minimal covers by the program, by abstract walks.
  Conditions: those typed in each theorem.
-/
import Derived.Test.YtnjedabjbeipeaaYi
namespace Go.Proofs.Ytnjedabjbeipeaa
open Go.RowKit Go.ChangeShapes Go.WideShapes
set_option linter.unusedSimpArgs false
set_option linter.unusedVariables false
set_option maxRecDepth 100000
set_option maxHeartbeats 10000000
def Jr (n:Nat) (b:Int) (c:Ah):Bool:=(DJ c.2 c.1==0)&&HD n b c
def N8 (n:Nat) (b:Int) (s0:List Ah) (ca:Nat):Nat→List Ah
 | 0=>s0
 | v+1=>if Jr n b ((ca:Int),(v:Int))=true then N8 n b s0 ca v++[((ca:Int),(v:Int))] else N8 n b s0 ca v
def Qw (n:Nat) (b:Int):Nat→List Ah
 | 0=>[]
 | ca+1=>N8 n b (Qw n b ca) ca (ca+1)
def Lk (n:Nat) (b:Int):List Ah:=Qw n b (2 ^ n)
def OH (c d:Ah):Bool:=!(d.1==c.1&&d.2==c.2)&&((DJ d.1 c.1==0)&&(Cp c.2 d.1==d.2))
def QM (A:List Ah) (c:Ah):Nat→Bool
 | 0=>true
 | k+1=>if OH c ((A[k]?).getD (0,0))=true then false else QM A c k
def QF (A:List Ah):Nat→List Ah
 | 0=>[]
 | k+1=>if QM A ((A[k]?).getD (0,0)) A.length=true then QF A k++[(A[k]?).getD (0,0)] else QF A k
def Hx (n:Nat) (b:Int):List Ah:=QF (Lk n b) (Lk n b).length
theorem YT {n:Nat} {b:Int} {s0:List Ah} {ca:Nat} {c:Ah}:∀ k,c∈N8 n b s0 ca k↔c∈s0∨∃ v:Nat,v<k∧c=((ca:Int),(v:Int))∧Jr n b c=true
 | 0=>by
   show c∈s0↔_;exact⟨.inl,fun h=>h.elim id fun ⟨v,h,_⟩=>absurd h (by omega)⟩
 | k+1=>by
   have ih:=YT (n:=n) (b:=b) (s0:=s0) (ca:=ca) (c:=c) k;unfold N8;split
   · rename_i h;rw[ACE,ih,zz9];constructor
     · rintro ((h1|⟨v,h1,h2⟩)|rfl)
       · exact .inl h1
       · exact .inr ⟨v,by omega,h2⟩
       · exact .inr ⟨k,by omega,rfl,h⟩
     · rintro (h1|⟨v,h1,rfl,h2⟩)
       · exact .inl (.inl h1)
       · by_cases hv:v=k
         · subst hv;exact .inr rfl
         · exact .inl (.inr ⟨v,by omega,rfl,h2⟩)
   · rename_i h;rw[ih];constructor
     · rintro (h1|⟨v,h1,h2⟩)
       · exact .inl h1
       · exact .inr ⟨v,by omega,h2⟩
     · rintro (h1|⟨v,h1,rfl,h2⟩)
       · exact .inl h1
       · by_cases hv:v=k
         · subst hv;exact absurd h2 h
         · exact .inr ⟨v,by omega,rfl,h2⟩
theorem Yx {n:Nat} {b:Int} {c:Ah}:∀ k,c∈Qw n b k↔∃ ca v:Nat,ca<k∧v≤ca∧c=((ca:Int),(v:Int))∧Jr n b c=true
 | 0=>by simp[Qw]
 | k+1=>by
   have ih:=Yx (n:=n) (b:=b) (c:=c) k;unfold Qw;rw[YT,ih];constructor
   · rintro (⟨ca,v,h1,h2⟩|⟨v,h1,h2⟩)
     · exact⟨ca,v,by omega,h2⟩
     · exact⟨k,v,by omega,by omega,h2⟩
   · rintro⟨ca,v,h1,h2,h3⟩;by_cases hc:ca=k
     · subst hc;exact .inr ⟨v,by omega,h3⟩
     · exact .inl ⟨ca,v,by omega,h2,h3⟩
def XG (ca:Nat) (k:Nat):Nat:=((List.range k).filter fun v:Nat=>DJ (v:Int) (ca:Int)==0).length
theorem ST {n:Nat} {b:Int} {s0:List Ah} {ca:Nat}:∀ k,(N8 n b s0 ca k).length≤s0.length+XG ca k
 | 0=>by simp[N8]
 | k+1=>by
   have ih:=ST (n:=n) (b:=b) (s0:=s0) (ca:=ca) k
   have hv:XG ca (k+1)=XG ca k+(if (DJ (k:Int) (ca:Int)==0)=true then 1 else 0):=by
    unfold XG;rw[List.range_succ,List.filter_append,ACg]
    congr 1
    cases h:(DJ (k:Int) (ca:Int)==0)<;>simp[List.filter,h]
   unfold N8;split
   · rename_i h;unfold Jr at h;simp only[Bool.and_eq_true] at h;rw[if_pos h.1] at hv;simp;omega
   · omega
def eR:Nat→Nat
 | 0=>0
 | ca+1=>eR ca+XG ca (ca+1)
theorem TV {n:Nat} {b:Int}:∀ k,(Qw n b k).length≤eR k
 | 0=>by simp[Qw]
 | k+1=>by
   have ih:=TV (n:=n) (b:=b) k;have h:=ST (n:=n) (b:=b) (s0:=Qw n b k) (ca:=k) (k+1);unfold Qw eR;omega
theorem nE:∀ n,n≤4→eR (2 ^ n)≤81:=by decide
theorem UF {n:Nat} {b:Int} (h:n≤4):(Lk n b).length≤81:=Nat.le_trans (TV _) (nE n h)
theorem PH {n:Nat} {b:Int} {c:Ah}:c∈Lk n b↔∃ ca v:Nat,ca<2 ^ n∧v≤ca∧c=((ca:Int),(v:Int))∧Jr n b c=true:=Yx _
theorem X7 {A:List Ah} {c:Ah}:∀ k,k≤A.length→(c∈QF A k↔c∈A.take k∧QM A c A.length=true)
 | 0,_=>by simp[QF]
 | k+1,hk=>by
   have ih:=X7 (A:=A) (c:=c) k (by omega);have hx:A[k]? = some A[k]:=zz0 (by omega);have hd:(A[k]?).getD (0,0)=A[k]:=by rw[hx];rfl
   rw[Bh hx];unfold QF;rw[hd];split
   · rename_i h;rw[ACE,ih,ACE,zz9];constructor
     · rintro (⟨h1,h2⟩|rfl)
       · exact⟨.inl h1,h2⟩
       · exact⟨.inr rfl,h⟩
     · rintro⟨h1|h1,h2⟩
       · exact .inl ⟨h1,h2⟩
       · exact .inr h1
   · rename_i h;rw[ih,ACE,zz9];constructor
     · rintro⟨h1,h2⟩;exact⟨.inl h1,h2⟩
     · rintro⟨h1|rfl,h2⟩
       · exact⟨h1,h2⟩
       · exact absurd h2 h
theorem Tn {A:List Ah}:∀ k,(QF A k).length≤k
 | 0=>by simp[QF]
 | k+1=>by
   have ih:=Tn (A:=A) k;unfold QF;split
   · simp;omega
   · omega
theorem YX {A:List Ah} {c:Ah}:∀ k,k≤A.length→(QM A c k=true↔∀ d∈A.take k,OH c d=false)
 | 0,_=>by simp[QM]
 | k+1,hk=>by
   have ih:=YX (A:=A) (c:=c) k (by omega);have hx:A[k]? = some A[k]:=zz0 (by omega);have hd:(A[k]?).getD (0,0)=A[k]:=by rw[hx];rfl
   rw[Bh hx];unfold QM;rw[hd];split
   · rename_i h;constructor
     · intro h2;cases h2
     · intro h2;have:=h2 A[k] (List.mem_append_right _ (zz9.2 rfl));rw[h] at this
       cases this
   · rename_i h;rw[ih];constructor
     · intro h2 d hd;rcases ACE.1 hd with hd|hd
       · exact h2 d hd
       · rw[zz9.1 hd];simpa using h
     · intro h2 d hd;exact h2 d (List.mem_append_left _ hd)
theorem MY {n:Nat} {b:Int} {c:Ah}:c∈Hx n b↔c∈Lk n b∧∀ d∈Lk n b,OH c d=false:=by
 unfold Hx;rw[X7 _ (Nat.le_refl _),List.take_length,YX _ (Nat.le_refl _),List.take_length]
theorem RA {n:Nat} {b:Int} (h:n≤4):(Hx n b).length≤81:=Nat.le_trans (Tn _) (UF h)
def oL (n:Nat) (b:Int):Nat→List Ah→List Ah
 | 0,L=>L
 | k+1,L=>oL n b k (if BP (T7 n (L.take k++L.drop (k+1)))=b then L.take k++L.drop (k+1) else L)
def Lj (n:Nat) (b:Int):List Ah:=oL n b (Hx n b).length (Hx n b)
theorem Na {n:Nat} {b:Int} {p:Ah→Prop}:∀ (k:Nat) (L:List Ah),(∀ c∈L,p c)→(oL n b k L).length≤L.length∧(∀ c∈oL n b k L,p c)∧(BP (T7 n L)=b→BP (T7 n (oL n b k L))=b)
 | 0,L,h=>⟨Nat.le_refl _,h,id⟩
 | k+1,L,h=>by
   unfold oL;split
   · rename_i hb
     have h2:∀ c∈L.take k++L.drop (k+1),p c:=fun c hc=>by
      rcases ACE.1 hc with hc|hc
      · exact h c (List.mem_of_mem_take hc)
      · exact h c (List.mem_of_mem_drop hc)
     obtain⟨q1,q2,q3⟩:=Na (n:=n) (b:=b) k _ h2;refine⟨?_,q2,fun _=>q3 hb⟩;simp only[ACg,ACL,List.length_drop] at q1;omega
   · exact Na k L h
def JD (n:Nat) (c:Ah):Prop:=∃ ca v:Nat,ca<2 ^ n∧v≤ca∧c=((ca:Int),(v:Int))∧DJ c.2 c.1=0
theorem jI {n:Nat} {c:Ah} (h:JD n c):H1 n c=true:=by
 obtain⟨ca,v,h1,h2,rfl,h3⟩:=h;unfold H1;simp only at h3 ⊢;rw[h3,AN.2 (by omega),AN.2 (by omega)];rfl
theorem LC {n:Nat} {L:List Ah} (h1:L.length≤81) (h2:∀ c∈L,JD n c):D0 n L=true:=by
 unfold D0;rw[zz2 h1,Bool.true_and,zz8];exact fun c hc=>jI (h2 c hc)
theorem Zm {n:Nat} {b:Int}:∀ c∈Lk n b,JD n c:=fun c hc=>by
 obtain⟨ca,v,h1,h2,h3,h4⟩:=PH.1 hc;unfold Jr at h4;simp only[Bool.and_eq_true,beq_iff_eq] at h4;exact⟨ca,v,h1,h2,h3,h4.1⟩
theorem PW {n:Nat} {b:Int}:∀ c∈Hx n b,JD n c:=fun c hc=>Zm c (MY.1 hc).1
theorem HJ {n:Nat} {b:Int} (h:n≤4):(Lj n b).length≤81∧(∀ c∈Lj n b,JD n c)∧(BP (T7 n (Hx n b))=b→BP (T7 n (Lj n b))=b):=by
 obtain⟨q1,q2,q3⟩:=Na (n:=n) (b:=b) (p:=JD n) (Hx n b).length (Hx n b) PW;exact⟨Nat.le_trans q1 (RA h),q2,q3⟩
def cH:Nat→Nat→Nat
 | 0,_=>0
 | f+1,x=>if x=0 then 0 else x % 2+cH f (x / 2)
def N4 (L:List Ah):Nat→Nat
 | 0=>0
 | k+1=>N4 L k+cH 5 ((L[k]?).getD (0,0)).1.toNat
theorem Tk:∀ f x,cH f x≤f
 | 0,x=>by simp[cH]
 | f+1,x=>by
   have:=Tk f (x / 2);unfold cH;split<;>omega
theorem hY {L:List Ah}:∀ k,N4 L k≤5*k
 | 0=>by simp[N4]
 | k+1=>by
   have ih:=hY (L:=L) k;have:=Tk 5 ((L[k]?).getD (0,0)).1.toNat;unfold N4;omega
theorem S8 (x:Nat) (hx:x<32):CI Try.prog 149 [.d (.int .i64 (x:Int))] (.d (.int .i64 (cH 5 x:Int))):=by
 obtain⟨R,hR⟩:∃ R,cH 5 x=R:=⟨_,rfl⟩;rw[hR];refine BD (by kernel_rfl) Try.func149 rfl rfl rfl ?_;simp;refine As [true,false,false,true] (fun q:Nat×Nat×Nat=>q.2.1<2 ^ q.1∧q.1≤5∧q.2.2+cH q.1 q.2.1=R) (fun q:Nat×Nat×Nat=>[(0,.d (.int .i64 (q.2.1:Int))),(3,.d (.int .i64 (q.2.2:Int)))]) (fun q:Nat×Nat×Nat=>fun sl=>sl) (fun q:Nat×Nat×Nat=>q.1) (5,x,0) ?_ ?_ ?_
 · exact⟨by simpa using hx,by simp,by simpa using hR⟩
 · exact⟨[],by simp⟩
 rintro I S μ hI hS hμ ⟨f,y,a⟩ ⟨q1,q2,q3⟩;simp only at q1 q2 q3 hμ ⊢;have hy32:y<32:=ACM q1 (ACU (n:=2) (by omega) (show f≤5 from q2));have hRb:=Tk 5 x;by_cases hy:y=0
 · subst hy;have ha:a=R:=by cases f<;>simpa [cH] using q3
   subst ha;simp
 · obtain⟨g,rfl⟩:∃ g,f=g+1:=⟨f - 1,by cases f with
    | zero=>simp at q1;omega
    | succ f=>rfl⟩
   have hp:2 ^ (g+1)=2*2 ^ g:=by rw[Nat.pow_succ];omega
   rw[cH,if_neg hy] at q3;have m1:Cp (y:Int) 1=((y % 2:Nat):Int):=by rw[Fm];omega
   have m2:DB (y:Int) 1=((y / 2:Nat):Int):=by unfold DB;rw[show (1:Int).toNat=1 from rfl,show min 1 64=1 from rfl,ACB _ (by decide)];omega
   have w1:IntKind.i64.wrap ((a:Int)+((y % 2:Nat):Int))=((a+y % 2:Nat):Int):=by rw[Af (by omega) (by omega)];omega
   have hg2:y / 2<2 ^ g:=by omega
   generalize y % 2=r at *;generalize y / 2=h at *;simp[show 0<y by omega,hy,m1,m2,w1];exact Ae hI hS hμ (g,h,a+r) ⟨by simp only;omega,by simp only;omega,by simp only;omega⟩ (by simp only;omega) ⟨[],by simp⟩
theorem Sj (n:Nat) (L:List Ah) (hn:n≤4) (hl:L.length≤81) (hc:∀ c∈L,JD n c):CI Try.prog 119 [.d (.int .i64 (n:Int)),oU L] (.d (.int .i64 (N4 L L.length:Int))):=by
 have k0:=OU n L hn (by omega);rw[LC hl hc] at k0;have h2:2 ^ n≤16:=(EX hn).2;refine BD (by kernel_rfl) Try.func119 rfl rfl rfl ?_;simp;refine Ab (k0) ?_;simp;refine As [false,false,false,false,false,true,false,false,false,false,false,false,true,true,true] (fun i:Nat=>i≤L.length) (fun i:Nat=>[(5,.d (.int .i64 (N4 L i:Int))),(14,.d (.int .i64 i))]) (fun i:Nat=>fun sl=>sl) (fun i:Nat=>L.length - i) 0 ?_ ?_ ?_
 · exact Nat.zero_le _
 · exact⟨[],by simp[N4]⟩
 rintro I S μ hI hS hμ i hi;by_cases hlt:i<L.length
 · obtain⟨c,hx⟩:∃ c,L[i]? = some c:=⟨_,zz0 hlt⟩;obtain⟨ca,v,c1,c2,rfl,c3⟩:=hc c (zz6 hx);have hL:(Ao ((ca:Int),(v:Int))).length=2:=rfl;have hst:N4 L (i+1)=N4 L i+cH 5 ca:=by rw[N4,hx];rfl
   have hr:=hY (L:=L) i;have hr2:=Tk 5 ca;have kB:=S8 ca (by omega);have w1:IntKind.i64.wrap ((i:Int)+1)=(i:Int)+1:=Af (by omega) (by omega);have w2:IntKind.i64.wrap ((N4 L i:Int)+(cH 5 ca:Int))=((N4 L (i+1):Nat):Int):=by rw[hst,Af (by omega) (by omega)];omega
   simp[zz2 hlt,hx,hL,Ao];refine Ab (kB) ?_;simp[w1,w2];exact Ae hI hS hμ (i+1) (by omega) (by omega) ⟨[],by simp⟩
 obtain rfl:i=L.length:=by omega
 simp[hlt,zz3 hlt]
def GI (xs:List Ah) (s:Nat):V:=if xs=[] then .nil 138 else .ref s
def GH (xs:List Ah) (sl:List Ag):List Ag:=if xs=[] then sl else sl++[.arr 138 true (xs.map Ao)]
theorem SA (n:Nat) (b:Int) (h:Dg n b=true):BS Try.prog 144 [.agg [.d (.int .i64 (n:Int)),.d (.int .i64 b)]] [] (.d (.sl 138 ((Hx n b).map Ao))) []:=by
 have hn:=Hq h;have k0:=GX n b;rw[h] at k0;obtain⟨hsh,hm⟩:=EX hn;have hu:IntKind.u64.wrap (n:Int)=n:=Fb (by omega) (by omega);have kI:=fun c=>bZ n b c h;have hA:Lk n b=Qw n b (2 ^ n):=rfl;have h81:=UF (b:=b) hn
 have hcl:∀ ca,ca≤2 ^ n→(Qw n b ca).length≤1000:=fun ca hca=>by
  have:=TV (n:=n) (b:=b) ca;have h2:∀ k,k≤16→eR k≤1000:=by decide
  have:=h2 ca (by omega);omega
 have hvl:∀ ca v,ca<2 ^ n→(N8 n b (Qw n b ca) ca v).length≤1000+v:=fun ca v hca=>by
  have h1:=ST (n:=n) (b:=b) (s0:=Qw n b ca) (ca:=ca) v;have h2:=hcl ca (by omega)
  have h3:XG ca v≤v:=by
   unfold XG;exact Nat.le_trans (List.length_filter_le _ _) (by simp)
  omega
 have hP:Hx n b=QF (Lk n b) (Lk n b).length:=rfl;rw[hP];clear hP;have hx0:∀ ca,Qw n b (ca+1)=N8 n b (Qw n b ca) ca (ca+1):=fun ca=>rfl;have hy0:∀ ca,N8 n b (Qw n b ca) ca 0=Qw n b ca:=fun ca=>rfl;have hc0:Qw n b 0=[]:=rfl;generalize Lk n b=A at *;generalize 2 ^ n=N at *;refine Cv (by kernel_rfl) Try.func144 rfl rfl rfl (by simp[AZ,Later]) (by simp[Bi,Ag.live]) ?_;simp;refine Ab (k0) ?_;simp;refine As [false,true,false,true,true,true] (fun ca:Nat=>ca≤N) (fun ca:Nat=>[(3,GI (Qw n b ca) 1),(5,.d (.int .i64 ca))]) (fun ca:Nat=>fun sl=>GH (Qw n b ca) (sl.take 1)) (fun ca:Nat=>N - ca) 0 ?_ ?_ ?_
 · exact Nat.zero_le _
 · exact⟨[0],by simp[GI,GH,hc0]⟩
 rintro I S μ hI hS hμ ca hca;by_cases hlt:ca<N
 · have w1:IntKind.i64.wrap ((ca:Int)+1)=(ca:Int)+1:=Af (by omega) (by omega);have hy1:=hy0 ca;have hx1:=hx0 ca;have hvl1:=fun v=>hvl ca v hlt;generalize Qw n b ca=s0 at *;by_cases hs0:s0=[]
   · subst hs0;simp[hsh,hu,hlt,GI,GH];refine As [false,true,false,true,true,true,true] (fun v:Nat=>v≤ca+1) (fun v:Nat=>[(3,GI (N8 n b [] ca v) 1),(6,.d (.int .i64 v))]) (fun v:Nat=>fun _=>GH (N8 n b [] ca v) [.var 62 [.d (.int .i64 (n:Int)),.d (.int .i64 b)]]) (fun v:Nat=>ca+1 - v) 0 ?_ ?_ ?_
     · exact Nat.zero_le _
     · exact⟨[0],by simp[GI,GH,hy1]⟩
     rintro I2 S2 μ2 hI2 hS2 hμ2 v hv;have hnv:N8 n b [] ca (v+1)=if Jr n b ((ca:Int),(v:Int))=true then N8 n b [] ca v++[((ca:Int),(v:Int))] else N8 n b [] ca v:=rfl;have hvl2:=hvl1 v;by_cases hlt2:v≤ca
     · have w2:IntKind.i64.wrap ((v:Int)+1)=(v:Int)+1:=Af (by omega) (by omega);have hkc:Jr n b ((ca:Int),(v:Int))=((DJ (v:Int) (ca:Int)==0)&&HD n b ((ca:Int),(v:Int))):=rfl;have kI0:=kI ((ca:Int),(v:Int));obtain⟨p2,hp2⟩:∃ p2,N8 n b [] ca (v+1)=p2:=⟨_,rfl⟩;rw[hp2] at hnv;generalize N8 n b [] ca v=p1 at *;have hle:=zz2 hlt2;by_cases hp1:p1=[]
       · skip
         rcases ACS (DJ (v:Int) (ca:Int)==0) with h1|h1
         · cases h3:HD n b ((ca:Int),(v:Int)) with
           | false =>
             rw[h1,h3] at hkc;rw[hkc,if_neg (by simp)] at hnv;rw[h3] at kI0;simp[hlt2,hle,h1,GI,GH,hp1];refine Ab (kI0) ?_;simp[w2];exact Ae hI2 hS2 hμ2 (v+1) (by omega) (by omega) ⟨[0],by simp[hp2,hnv,GI,GH,hp1]⟩
           | true =>
             rw[h1,h3] at hkc;rw[hkc,if_pos (by simp)] at hnv;rw[h3] at kI0;have hsv:p2≠[]:=by rw[hnv];simp
             simp[hlt2,hle,h1,GI,GH,hp1];refine Ab (kI0) ?_;simp;refine Aw Fo rfl (by simp) rfl (by simp) (by simp) (by first | (simp;done)|(simp;omega)) (by simp[Bp,A4]) ?_;simp[w2];exact Ae hI2 hS2 hμ2 (v+1) (by omega) (by omega) ⟨[0,3],by simp[hp2,GI,GH,hsv];simp[hnv,hp1,Ao,e2,Az]⟩
         · rw[h1,Bool.false_and] at hkc;rw[hkc,if_neg (by simp)] at hnv;simp[hlt2,hle,h1,GI,GH,hp1,w2];exact Ae hI2 hS2 hμ2 (v+1) (by omega) (by omega) ⟨[0],by simp[hp2,hnv,GI,GH,hp1]⟩
       · skip
         rcases ACS (DJ (v:Int) (ca:Int)==0) with h1|h1
         · cases h3:HD n b ((ca:Int),(v:Int)) with
           | false =>
             rw[h1,h3] at hkc;rw[hkc,if_neg (by simp)] at hnv;rw[h3] at kI0;simp[hlt2,hle,h1,GI,GH,hp1];refine Ab (kI0) ?_;simp[w2];exact Ae hI2 hS2 hμ2 (v+1) (by omega) (by omega) ⟨[0,1],by simp[hp2,hnv,GI,GH,hp1]⟩
           | true =>
             rw[h1,h3] at hkc;rw[hkc,if_pos (by simp)] at hnv;rw[h3] at kI0;have hsv:p2≠[]:=by rw[hnv];simp
             simp[hlt2,hle,h1,GI,GH,hp1];refine Ab (kI0) ?_;simp;refine Aw Fo rfl (by simp) rfl (by simp) (by simp) (by first | (simp;done)|(simp;omega)) (by simp[Bp,A4]) ?_;simp[w2];exact Ae hI2 hS2 hμ2 (v+1) (by omega) (by omega) ⟨[0,4],by simp[hp2,GI,GH,hsv];simp[hnv,hp1,Ao,e2,Az]⟩
         · rw[h1,Bool.false_and] at hkc;rw[hkc,if_neg (by simp)] at hnv;simp[hlt2,hle,h1,GI,GH,hp1,w2];exact Ae hI2 hS2 hμ2 (v+1) (by omega) (by omega) ⟨[0,1],by simp[hp2,hnv,GI,GH,hp1]⟩
     obtain rfl:v=ca+1:=by omega
     rw[←hx1];have hle2:=zz3 hlt2;by_cases hs2:Qw n b (ca+1)=[]
     · simp[hlt2,hle2,show ¬ ((ca:Int)+1≤(ca:Int)) by omega,GI,GH,hs2,w1];exact Ae hI hS hμ (ca+1) (by omega) (by omega) ⟨[0],by simp[GI,GH,hs2]⟩
     · simp[hlt2,hle2,show ¬ ((ca:Int)+1≤(ca:Int)) by omega,GI,GH,hs2,w1];exact Ae hI hS hμ (ca+1) (by omega) (by omega) ⟨[0,1],by simp[GI,GH,hs2]⟩
   · simp[hsh,hu,hlt,GI,GH,hs0];refine As [false,true,false,true,true,true,true] (fun v:Nat=>v≤ca+1) (fun v:Nat=>[(3,GI (N8 n b s0 ca v) 1),(6,.d (.int .i64 v))]) (fun v:Nat=>fun _=>GH (N8 n b s0 ca v) [.var 62 [.d (.int .i64 (n:Int)),.d (.int .i64 b)]]) (fun v:Nat=>ca+1 - v) 0 ?_ ?_ ?_
     · exact Nat.zero_le _
     · exact⟨[0,1],by simp[GI,GH,hy1,hs0]⟩
     rintro I2 S2 μ2 hI2 hS2 hμ2 v hv;have hnv:N8 n b s0 ca (v+1)=if Jr n b ((ca:Int),(v:Int))=true then N8 n b s0 ca v++[((ca:Int),(v:Int))] else N8 n b s0 ca v:=rfl;have hvl2:=hvl1 v;by_cases hlt2:v≤ca
     · have w2:IntKind.i64.wrap ((v:Int)+1)=(v:Int)+1:=Af (by omega) (by omega);have hkc:Jr n b ((ca:Int),(v:Int))=((DJ (v:Int) (ca:Int)==0)&&HD n b ((ca:Int),(v:Int))):=rfl;have kI0:=kI ((ca:Int),(v:Int));obtain⟨p2,hp2⟩:∃ p2,N8 n b s0 ca (v+1)=p2:=⟨_,rfl⟩;rw[hp2] at hnv;generalize N8 n b s0 ca v=p1 at *;have hle:=zz2 hlt2;by_cases hp1:p1=[]
       · skip
         rcases ACS (DJ (v:Int) (ca:Int)==0) with h1|h1
         · cases h3:HD n b ((ca:Int),(v:Int)) with
           | false =>
             rw[h1,h3] at hkc;rw[hkc,if_neg (by simp)] at hnv;rw[h3] at kI0;simp[hlt2,hle,h1,GI,GH,hp1];refine Ab (kI0) ?_;simp[w2];exact Ae hI2 hS2 hμ2 (v+1) (by omega) (by omega) ⟨[0],by simp[hp2,hnv,GI,GH,hp1]⟩
           | true =>
             rw[h1,h3] at hkc;rw[hkc,if_pos (by simp)] at hnv;rw[h3] at kI0;have hsv:p2≠[]:=by rw[hnv];simp
             simp[hlt2,hle,h1,GI,GH,hp1];refine Ab (kI0) ?_;simp;refine Aw Fo rfl (by simp) rfl (by simp) (by simp) (by first | (simp;done)|(simp;omega)) (by simp[Bp,A4]) ?_;simp[w2];exact Ae hI2 hS2 hμ2 (v+1) (by omega) (by omega) ⟨[0,3],by simp[hp2,GI,GH,hsv];simp[hnv,hp1,Ao,e2,Az]⟩
         · rw[h1,Bool.false_and] at hkc;rw[hkc,if_neg (by simp)] at hnv;simp[hlt2,hle,h1,GI,GH,hp1,w2];exact Ae hI2 hS2 hμ2 (v+1) (by omega) (by omega) ⟨[0],by simp[hp2,hnv,GI,GH,hp1]⟩
       · skip
         rcases ACS (DJ (v:Int) (ca:Int)==0) with h1|h1
         · cases h3:HD n b ((ca:Int),(v:Int)) with
           | false =>
             rw[h1,h3] at hkc;rw[hkc,if_neg (by simp)] at hnv;rw[h3] at kI0;simp[hlt2,hle,h1,GI,GH,hp1];refine Ab (kI0) ?_;simp[w2];exact Ae hI2 hS2 hμ2 (v+1) (by omega) (by omega) ⟨[0,1],by simp[hp2,hnv,GI,GH,hp1]⟩
           | true =>
             rw[h1,h3] at hkc;rw[hkc,if_pos (by simp)] at hnv;rw[h3] at kI0;have hsv:p2≠[]:=by rw[hnv];simp
             simp[hlt2,hle,h1,GI,GH,hp1];refine Ab (kI0) ?_;simp;refine Aw Fo rfl (by simp) rfl (by simp) (by simp) (by first | (simp;done)|(simp;omega)) (by simp[Bp,A4]) ?_;simp[w2];exact Ae hI2 hS2 hμ2 (v+1) (by omega) (by omega) ⟨[0,4],by simp[hp2,GI,GH,hsv];simp[hnv,hp1,Ao,e2,Az]⟩
         · rw[h1,Bool.false_and] at hkc;rw[hkc,if_neg (by simp)] at hnv;simp[hlt2,hle,h1,GI,GH,hp1,w2];exact Ae hI2 hS2 hμ2 (v+1) (by omega) (by omega) ⟨[0,1],by simp[hp2,hnv,GI,GH,hp1]⟩
     obtain rfl:v=ca+1:=by omega
     rw[←hx1];have hle2:=zz3 hlt2;by_cases hs2:Qw n b (ca+1)=[]
     · simp[hlt2,hle2,show ¬ ((ca:Int)+1≤(ca:Int)) by omega,GI,GH,hs2,w1];exact Ae hI hS hμ (ca+1) (by omega) (by omega) ⟨[0],by simp[GI,GH,hs2]⟩
     · simp[hlt2,hle2,show ¬ ((ca:Int)+1≤(ca:Int)) by omega,GI,GH,hs2,w1];exact Ae hI hS hμ (ca+1) (by omega) (by omega) ⟨[0,1],by simp[GI,GH,hs2]⟩
 obtain rfl:ca=N:=by omega
 clear hI hS hμ hy0 hx0 hvl hcl kI k0 hc0;rw[←hA];have hpo:QF A 0=[]:=rfl;have hpl:∀ k,k≤A.length→(QF A k).length≤81:=fun k hk=>by have:=Tn (A:=A) k;omega
 by_cases hne:A=[]
 · have hl0:A.length=0:=by rw[hne];rfl
   simp[hsh,hu,hlt,GI,GH,hne];refine As [false,false,false,true,true,false,false,false,false,false,false,false,false,false,false,false,false,false,false,false,false,false,false,false,false,false,false,false,false,false,false,false,false,false,false,false,false,false,false,false,false,false,false,false,false,true,true,true] (fun k:Nat=>k=0) (fun k:Nat=>[(4,.nil 138),(47,.d (.int .i64 k))]) (fun k:Nat=>fun _=>[]) (fun k:Nat=>0) 0 ?_ ?_ ?_
   · rfl
   · exact⟨[],by simp⟩
   rintro I S μ hI hS hμ k rfl;simp;exact⟨[],by simp[QF]⟩
 simp[hsh,hu,hlt,GI,GH,hne];refine As [false,false,false,true,true,false,false,false,false,false,false,false,false,false,false,false,false,false,false,false,false,false,false,false,false,false,false,false,false,false,false,false,false,false,false,false,false,false,false,false,false,false,false,false,false,true,true,true] (fun k:Nat=>k≤A.length) (fun k:Nat=>[(3,.d (.sl 138 (A.map Ao))),(4,GI (QF A k) 0),(45,.d (.sl 138 (A.map Ao))),(47,.d (.int .i64 k))]) (fun k:Nat=>fun _=>GH (QF A k) []) (fun k:Nat=>A.length - k) 0 ?_ ?_ ?_
 · exact Nat.zero_le _
 · exact⟨[],by simp[GI,GH,hpo]⟩
 rintro I S μ hI hS hμ k hk;have hpk:=hpl k hk;by_cases hlt2:k<A.length
 · obtain⟨c,hc⟩:∃ c,A[k]? = some c:=⟨_,zz0 hlt2⟩;have hL:(Ao c).length=2:=rfl;have w1:IntKind.i64.wrap ((k:Int)+1)=(k:Int)+1:=Af (by omega) (by omega);have hnx:QF A (k+1)=if QM A c A.length=true then QF A k++[c] else QF A k:=by rw[QF,hc];rfl
   obtain⟨p2,hp2⟩:∃ p2,QF A (k+1)=p2:=⟨_,rfl⟩;rw[hp2] at hnx;generalize QF A k=p1 at *;by_cases hp1:p1=[]
   · skip
     simp[zz2 hlt2,hc,hL,Ao,GI,GH,hp1];refine As [false,false,false,true,true,false,false,false,false,true,true,false,false,false,false,false,false,false,false,false,false,false,false,false,false,false,false,false,false,false,false,false,false,false,false,false,false,false,false,false,false,false,false,false,false,true,true,true,false,false,false,true,true,true] (fun j:Nat=>j≤A.length) (fun j:Nat=>[(10,.d (.bool (QM A c j))),(53,.d (.int .i64 j))]) (fun j:Nat=>fun sl=>sl) (fun j:Nat=>A.length - j) 0 ?_ ?_ ?_
     · exact Nat.zero_le _
     · exact⟨[0],by simp[QM]⟩
     rintro I2 S2 μ2 hI2 hS2 hμ2 j hj;by_cases hlt3:j<A.length
     · obtain⟨d,hd⟩:∃ d,A[j]? = some d:=⟨_,zz0 hlt3⟩;have hL2:(Ao d).length=2:=rfl;have w2:IntKind.i64.wrap ((j:Int)+1)=(j:Int)+1:=Af (by omega) (by omega);have hpn:QM A c (j+1)=if OH c d=true then false else QM A c j:=by rw[QM,hd];rfl
       have hdm:OH c d=(!(d.1==c.1&&d.2==c.2)&&((DJ d.1 c.1==0)&&(Cp c.2 d.1==d.2))):=rfl;generalize QM A c j=b0 at *;rcases ACS (d.1==c.1&&d.2==c.2) with h1|h1
       · rw[hdm,h1] at hpn;simp[zz2 hlt3,hd,hL2,Ao,h1,w2];exact Ae hI2 hS2 hμ2 (j+1) (by omega) (by omega) ⟨[0],by simp[hpn]⟩
       rcases ACS (DJ d.1 c.1==0) with h2|h2
       · rcases ACS (Cp c.2 d.1==d.2) with h3|h3
         · rw[hdm,h1,h2,h3] at hpn;simp[zz2 hlt3,hd,hL2,Ao,h1,h2,h3,w2];exact Ae hI2 hS2 hμ2 (j+1) (by omega) (by omega) ⟨[0],by simp[hpn]⟩
         · rw[hdm,h1,h2,h3] at hpn;simp[zz2 hlt3,hd,hL2,Ao,h1,h2,h3,w2];exact Ae hI2 hS2 hμ2 (j+1) (by omega) (by omega) ⟨[0],by simp[hpn]⟩
       · rw[hdm,h1,h2] at hpn;simp[zz2 hlt3,hd,hL2,Ao,h1,h2,w2];exact Ae hI2 hS2 hμ2 (j+1) (by omega) (by omega) ⟨[0],by simp[hpn]⟩
     obtain rfl:j=A.length:=by omega
     cases hb:QM A c A.length with
     | true =>
       rw[hb,if_pos rfl] at hnx;have hsv:p2≠[]:=by rw[hnx];simp
       simp[zz3 hlt3,hlt3];refine Aw Fo rfl (by simp) rfl (by simp) (by simp) (by first | (simp;done)|(simp;omega)) (by simp[Bp,A4]) ?_;simp[w1];exact Ae hI hS hμ (k+1) (by omega) (by omega) ⟨[2],by simp[hp2,GI,GH,hsv];simp[hnx,hp1,Ao,e2,Az]⟩
     | false =>
       rw[hb,if_neg (by simp)] at hnx;simp[zz3 hlt3,hlt3,w1];exact Ae hI hS hμ (k+1) (by omega) (by omega) ⟨[],by simp[hp2,hnx,GI,GH,hp1]⟩
   · skip
     simp[zz2 hlt2,hc,hL,Ao,GI,GH,hp1];refine As [false,false,false,true,true,false,false,false,false,true,true,false,false,false,false,false,false,false,false,false,false,false,false,false,false,false,false,false,false,false,false,false,false,false,false,false,false,false,false,false,false,false,false,false,false,true,true,true,false,false,false,true,true,true] (fun j:Nat=>j≤A.length) (fun j:Nat=>[(10,.d (.bool (QM A c j))),(53,.d (.int .i64 j))]) (fun j:Nat=>fun sl=>sl) (fun j:Nat=>A.length - j) 0 ?_ ?_ ?_
     · exact Nat.zero_le _
     · exact⟨[0,1],by simp[QM]⟩
     rintro I2 S2 μ2 hI2 hS2 hμ2 j hj;by_cases hlt3:j<A.length
     · obtain⟨d,hd⟩:∃ d,A[j]? = some d:=⟨_,zz0 hlt3⟩;have hL2:(Ao d).length=2:=rfl;have w2:IntKind.i64.wrap ((j:Int)+1)=(j:Int)+1:=Af (by omega) (by omega);have hpn:QM A c (j+1)=if OH c d=true then false else QM A c j:=by rw[QM,hd];rfl
       have hdm:OH c d=(!(d.1==c.1&&d.2==c.2)&&((DJ d.1 c.1==0)&&(Cp c.2 d.1==d.2))):=rfl;generalize QM A c j=b0 at *;rcases ACS (d.1==c.1&&d.2==c.2) with h1|h1
       · rw[hdm,h1] at hpn;simp[zz2 hlt3,hd,hL2,Ao,h1,w2];exact Ae hI2 hS2 hμ2 (j+1) (by omega) (by omega) ⟨[0,1],by simp[hpn]⟩
       rcases ACS (DJ d.1 c.1==0) with h2|h2
       · rcases ACS (Cp c.2 d.1==d.2) with h3|h3
         · rw[hdm,h1,h2,h3] at hpn;simp[zz2 hlt3,hd,hL2,Ao,h1,h2,h3,w2];exact Ae hI2 hS2 hμ2 (j+1) (by omega) (by omega) ⟨[0,1],by simp[hpn]⟩
         · rw[hdm,h1,h2,h3] at hpn;simp[zz2 hlt3,hd,hL2,Ao,h1,h2,h3,w2];exact Ae hI2 hS2 hμ2 (j+1) (by omega) (by omega) ⟨[0,1],by simp[hpn]⟩
       · rw[hdm,h1,h2] at hpn;simp[zz2 hlt3,hd,hL2,Ao,h1,h2,w2];exact Ae hI2 hS2 hμ2 (j+1) (by omega) (by omega) ⟨[0,1],by simp[hpn]⟩
     obtain rfl:j=A.length:=by omega
     cases hb:QM A c A.length with
     | true =>
       rw[hb,if_pos rfl] at hnx;have hsv:p2≠[]:=by rw[hnx];simp
       simp[zz3 hlt3,hlt3];refine Aw Fo rfl (by simp) rfl (by simp) (by simp) (by first | (simp;done)|(simp;omega)) (by simp[Bp,A4]) ?_;simp[w1];exact Ae hI hS hμ (k+1) (by omega) (by omega) ⟨[3],by simp[hp2,GI,GH,hsv];simp[hnx,hp1,Ao,e2,Az]⟩
     | false =>
       rw[hb,if_neg (by simp)] at hnx;simp[zz3 hlt3,hlt3,w1];exact Ae hI hS hμ (k+1) (by omega) (by omega) ⟨[0],by simp[hp2,hnx,GI,GH,hp1]⟩
 obtain rfl:k=A.length:=by omega
 by_cases hp1:QF A A.length=[]
 · simp[zz3 hlt2,hlt2,GI,GH,hp1];exact⟨[],by simp⟩
 · simp[zz3 hlt2,hlt2,GI,GH,hp1];exact⟨[],by simp⟩
theorem Pz {es:List (List D)} (h:∀ c∈es,∃ x:Ah,c=Ao x):(∀ c∈es,c.length=2)∧Bp es:=by
 refine⟨fun c hc=>?_,fun c hc d hd=>?_⟩
 · obtain⟨x,rfl⟩:=h c hc;rfl
 · obtain⟨x,rfl⟩:=h c hc;simp only[Ao,e2,Az,List.mem_cons,List.not_mem_nil,or_false] at hd;rcases hd with rfl|rfl<;>rfl
theorem R5 (n:Nat) (b:Int) (h:Dg n b=true):BS Try.prog 117 [.agg [.d (.int .i64 (n:Int)),.d (.int .i64 b)]] [] (.d (.sl 138 ((Lj n b).map Ao))) []:=by
 have hn:=Hq h;have k0:=GX n b;rw[h] at k0;have kP:=SA n b h;have hpl:=RA (b:=b) hn;have hpc:=PW (n:=n) (b:=b);obtain⟨R,hR⟩:∃ R,Lj n b=R:=⟨_,rfl⟩;have hR2:=hR;unfold Lj at hR2;rw[hR];generalize Hx n b=P at *;have w0:IntKind.i64.wrap ((P.length:Int) - 1)=(P.length:Int) - 1:=Af (by omega) (by omega);refine Bl (by kernel_rfl) Try.func117 rfl rfl rfl (by simp[AZ,Later]) (by simp[Bi,Ag.live]) ?_;simp;refine Ab (k0) ?_;simp;refine Ac (kP) [] [] (by simp) ?_;simp[w0];refine As [false,true,false,true,true] (fun p:Nat×List Ah=>p.1≤p.2.length∧p.2.length≤81∧(∀ c∈p.2,JD n c)∧oL n b p.1 p.2=R) (fun p:Nat×List Ah=>[(3,.d (.sl 138 (p.2.map Ao))),(4,.d (.int .i64 ((p.1:Int) - 1)))]) (fun p:Nat×List Ah=>fun sl=>sl.take 1) (fun p:Nat×List Ah=>p.1) (P.length,P) ?_ ?_ ?_
 · exact⟨Nat.le_refl _,hpl,hpc,hR2⟩
 · exact⟨[0],by simp⟩
 rintro I S μ hI hS hμ ⟨k,L⟩ ⟨q1,q2,q4,q3⟩;simp only at q1 q2 q3 q4
 match k,q1,q3 with
 | 0,q1,q3 =>
   have q3':L=R:=q3;subst q3';simp;exact⟨[],by simp⟩
 | k+1,q1,q3 =>
   have hsub:∀ c∈L.take k++L.drop (k+1),JD n c:=fun c hc=>by
    rcases ACE.1 hc with hc|hc
    · exact q4 c (List.mem_of_mem_take hc)
    · exact q4 c (List.mem_of_mem_drop hc)
   have hll:(L.take k++L.drop (k+1)).length=L.length - 1:=by simp;omega
   have kT:=V5 n (L.take k++L.drop (k+1)) hn (by omega) (LC (by omega) hsub);rw[oL] at q3;have hki:((k+1:Nat):Int) - 1=(k:Int):=by omega
   rw[hki];have w1:IntKind.i64.wrap ((k:Int) - 1)=(k:Int) - 1:=Af (by omega) (by omega);have w2:IntKind.i64.wrap ((k:Int)+1)=((k+1:Nat):Int):=by rw[Af (by omega) (by omega)];omega
   have hlm:(L.take k++L.drop (k+1)).map Ao=(L.map Ao).take k++(L.map Ao).drop (k+1):=by rw[ACX,List.map_take,List.map_drop]
   obtain⟨k1,hk1⟩:∃ k1,k+1=k1:=⟨_,rfl⟩;rw[hk1] at w2 hlm q1;rw[hk1] at hll q3 kT hsub;have ht1:=Pz (es:=(L.map Ao).take k) fun c hc=>by obtain⟨x,_,rfl⟩:=ACP.1 (List.mem_of_mem_take hc);exact⟨x,rfl⟩
   have ht2:=Pz (es:=(L.map Ao).drop k1) fun c hc=>by obtain⟨x,_,rfl⟩:=ACP.1 (List.mem_of_mem_drop hc);exact⟨x,rfl⟩
   have htk:List.take L.length (L.map Ao)=L.map Ao:=ACe (by simp);generalize L.take k++L.drop k1=L2 at *;generalize BP (T7 n L2)=tb at *;simp;refine AS [(4,[5,6,7,8]),(9,[]),(10,[])] (by kernel_rfl) ?_;simp[w2,show k≤L.length by omega,show k1≤L.length by omega,htk,Ao];refine Aw Fo rfl (by simp) rfl (by simp) (by rw[RF];exact ht1.1) (by simp;omega) (fun _=>ht1.2) ?_;simp[w2,show k1≤L.length by omega,htk,Ao];refine Aw Fo rfl (by simp) rfl (by simp) (by rw[RF];exact ht2.1) (by simp;omega) (fun _=>ht2.2) ?_;simp[←hlm];by_cases hb:tb=b
   · rw[if_pos hb] at q3;subst hb;refine AJ 6 (by kernel_rfl) ?_;simp;refine Ab (kT) ?_;simp[w1];exact Ae hI hS hμ (k,L2) ⟨by simp only;omega,by simp only;omega,hsub,q3⟩ (by simp only;omega) ⟨[0],by simp⟩
   · rw[if_neg hb] at q3;have hbe:(tb==b)=false:=by simpa using hb
     refine AJ 6 (by kernel_rfl) ?_;simp;refine Ab (kT) ?_;simp[hbe,hb,w1];exact Ae hI hS hμ (k,L) ⟨by simp only;omega,q2,q4,q3⟩ (by simp only;omega) ⟨[0],by simp⟩
end Go.Proofs.Ytnjedabjbeipeaa
