/-
  Propagation in the reference; consequences and proofs, by abstract walks: both sides.
  Conditions: those typed in each theorem.
-/
import Derived.Test.YtnjedabjbeipeaaGreatQb
namespace Go.Proofs.YtnjedabjbeipeaaGreat
open Go.RowKit Go.ChangeShapes Go.WideShapes
set_option linter.unusedSimpArgs false
set_option linter.unusedVariables false
set_option maxRecDepth 100000
set_option maxHeartbeats 10000000
theorem VY (cls:List BT) (p:List Int) (R:Option (List Int)) (hR:ET cls p=R) (hc:Wp 1048576 cls) (hp:p.length≤1048576) (ht:Dj p) (hl:CA p.length cls):Bx Tryz.prog 86 [US cls,ints p] (vT R):=by
 obtain⟨hc1,hc2⟩:=hc;refine A5 (by kernel_rfl) Tryz.func86 rfl rfl rfl ?_;simp;refine Ak As rfl (by simp) rfl (by simp) (by simp) (by first | (simp;done)|(simp;omega)) (by simp[AR,AL]) ?_;simp;refine AB [true,false,false,false,false,false,true,true] (fun i:List Int×Bool=>i.1.length=p.length∧Dj i.1∧(i.2=true→ET cls i.1=R)∧(i.2=false→R=some i.1)) (fun i:List Int×Bool=>[(7,.d (.bool i.2))]) (fun i:List Int×Bool=>[(1,.arr 3 true (i.1.map (e1 AC)))]) (fun i:List Int×Bool=>2*Eh i.1+(if i.2=true then 1 else 0)) (p,true) ?_ ?_ ?_
 · exact⟨rfl,ht,fun _=>hR,fun h=>by cases h⟩
 · exact⟨[0,1],by simp⟩
 rintro I S μ hI hS hμ ⟨q,ch⟩ ⟨hq,hqt,hct,hcf⟩;simp only at hq hqt hct hcf
 cases ch with
 | false =>
   have hR2:=hcf rfl;subst hR2;simp
 | true =>
   have hR2:=hct rfl;have hpr:=Jd (cls:=cls) (p:=q) (by rw[hq];exact hl) hqt;have hpf:=fun p' ch'=>EH (cls:=cls) (p:=q) (p':=p') (ch:=false) (ch':=ch') (by rw[hq];exact hl) hqt;rw[hR2] at hpr;simp;refine AB [true,false,false,false,false,false,true,true,true] (fun i:Nat×List Int×Bool=>i.1≤cls.length∧i.2.1.length=p.length∧Dj i.2.1∧Dt (cls.drop i.1) i.2.1 i.2.2=Dt cls q false) (fun i:Nat×List Int×Bool=>[(7,.d (.bool i.2.2)),(8,.d (.int .i64 i.1))]) (fun i:Nat×List Int×Bool=>[(1,.arr 3 true (i.2.1.map (e1 AC)))]) (fun i:Nat×List Int×Bool=>cls.length - i.1) (0,q,false) ?_ ?_ ?_
   · exact⟨Nat.zero_le _,hq,hqt,rfl⟩
   · exact⟨[0,1],by simp⟩
   rintro I2 S2 μ2 hI2 hS2 hμ2 ⟨k,q2,ch2⟩ ⟨hk,hq2,hqt2,hps⟩;simp only at hk hq2 hqt2 hps;by_cases hlt:k<cls.length
   · have hx1:cls[k]? = some cls[k]:=zz0 hlt;have hL:(Az cls[k]).length=1:=rfl;have w2:IntKind.i64.wrap ((k:Int)+1)=(k:Int)+1:=Ad (by omega) (by omega);have hd:decide (k<cls.length)=true:=zz2 hlt;have hcl:=hc2 _ (ABt hlt);have hli:∀ l∈cls[k],Ep q2.length l:=by rw[hq2];exact hl _ (ABt hlt)
     rw[V1 hx1] at hps;generalize cls[k]=c at *;have hum:=Hx (p:=q2) (cl:=c);have hu0:DQ q2 c 0=CU q2 c:=rfl;generalize CU q2 c=uc at *;simp[hd];refine AB [true,false,false,false,false,false,true,true,true,true,true,true,true] (fun i:Nat×Int×Bool×Bool=>i.1≤c.length∧(i.2.2.1=false→i.2.2.2=false→DQ q2 (c.drop i.1) i.2.1=uc)∧((i.2.2.1=true∨i.2.2.2=true)→uc=(0,false))) (fun i:Nat×Int×Bool×Bool=>[(9,.d (.int .i64 i.2.1)),(10,.d (.bool i.2.2.1)),(11,.d (.bool i.2.2.2)),(12,.d (.int .i64 i.1))]) (fun i:Nat×Int×Bool×Bool=>[]) (fun i:Nat×Int×Bool×Bool=>c.length - i.1) (0,0,false,false) ?_ ?_ ?_
     · exact⟨Nat.zero_le _,fun _ _=>by simpa using hu0,by simp⟩
     · exact⟨[0,1],by simp⟩
     rintro I3 S3 μ3 hI3 hS3 hμ3 ⟨j,u,sat,many⟩ ⟨hj,hgo,hst⟩;simp only at hj hgo hst;by_cases hend:sat=true∨many=true
     · have hz:=hst hend;subst hz;rw[if_neg (by simp),if_pos rfl] at hps;rcases ABu sat with h1|h1
       · subst h1;by_cases hjl:j<c.length
         · simp[hx1,hL,Az,hd,hjl,zz2 hjl,w2];exact Ae hI2 hS2 hμ2 (k+1,q2,ch2) ⟨by simp;omega,hq2,hqt2,hps⟩ (by simp;omega) ⟨[0,1],by simp⟩
         · simp[hx1,hL,Az,hd,hjl,zz3 hjl,w2];exact Ae hI2 hS2 hμ2 (k+1,q2,ch2) ⟨by simp;omega,hq2,hqt2,hps⟩ (by simp;omega) ⟨[0,1],by simp⟩
       · subst h1;obtain rfl:many=true:=by simpa using hend
         by_cases hjl:j<c.length
         · simp[hx1,hL,Az,hd,hjl,zz2 hjl,w2];exact Ae hI2 hS2 hμ2 (k+1,q2,ch2) ⟨by simp;omega,hq2,hqt2,hps⟩ (by simp;omega) ⟨[0,1],by simp⟩
         · simp[hx1,hL,Az,hd,hjl,zz3 hjl,w2];exact Ae hI2 hS2 hμ2 (k+1,q2,ch2) ⟨by simp;omega,hq2,hqt2,hps⟩ (by simp;omega) ⟨[0,1],by simp⟩
     obtain⟨rfl,rfl⟩:sat=false∧many=false:=by
      constructor
      · cases sat with
        | false=>rfl
        | true=>exact absurd (.inl rfl) hend
      · cases many with
        | false=>rfl
        | true=>exact absurd (.inr rfl) hend
     have hgo2:=hgo rfl rfl;by_cases hjl:j<c.length
     · have hy1:c[j]? = some c[j]:=zz0 hjl;have w5:IntKind.i64.wrap ((j:Int)+1)=(j:Int)+1:=Ad (by omega) (by omega);have hd2:decide (j<c.length)=true:=zz2 hjl;have hyl:=hli _ (ABt hjl);rw[Y9 hy1] at hgo2;generalize c[j]=y at *;have hval:=iA q2 y (by omega) hqt2 hyl;generalize DV q2 y=v at *;simp[hx1,hL,Az,hd,hd2,hy1];refine Ab (hval) ?_;simp;by_cases h1:v=1
       · rw[if_pos h1] at hgo2;subst h1;simp[w5];exact Ae hI3 hS3 hμ3 (j+1,u,true,false) ⟨by simp;omega,by simp,fun _=>hgo2.symm⟩ (by simp;omega) ⟨[0,1],by simp⟩
       rw[if_neg h1] at hgo2;have h1':(v==1)=false:=by simpa using h1
       by_cases h0:v=0
       case neg =>
        rw[if_neg h0] at hgo2;simp[h1,h1',h0,show (v==0)=false by simpa using h0,w5];exact Ae hI3 hS3 hμ3 (j+1,u,false,false) ⟨by simp;omega,fun _ _=>hgo2,by simp⟩ (by simp;omega) ⟨[0,1],by simp⟩
       rw[if_pos h0] at hgo2;subst h0;by_cases hu:u=0
       · rw[if_neg (by simp[hu])] at hgo2;simp[h1,h1',hu,w5];exact Ae hI3 hS3 hμ3 (j+1,y,false,false) ⟨by simp;omega,fun _ _=>hgo2,by simp⟩ (by simp;omega) ⟨[0,1],by simp⟩
       by_cases huy:u=y
       · rw[if_neg (by simp[huy])] at hgo2;subst huy;simp[h1,h1',hu,show (u != 0)=true by simpa using hu,w5];exact Ae hI3 hS3 hμ3 (j+1,u,false,false) ⟨by simp;omega,fun _ _=>hgo2,by simp⟩ (by simp;omega) ⟨[0,1],by simp⟩
       · rw[if_pos ⟨hu,huy⟩] at hgo2;simp[h1,h1',hu,show (u != 0)=true by simpa using hu,huy,show (u != y)=true by simpa using huy,w5];exact Ae hI3 hS3 hμ3 (j+1,y,false,true) ⟨by simp;omega,by simp,fun _=>hgo2.symm⟩ (by simp;omega) ⟨[0,1],by simp⟩
     · have hj':j=c.length:=by omega
       subst hj';rw[List.drop_length,DQ] at hgo2;subst hgo2;simp only at hps hum;by_cases hu0:u=0
       · rw[if_pos (by simp[hu0])] at hps;rw[←hps] at hpr;simp only at hpr;simp[hx1,hL,Az,hd,hjl,zz3 hjl,hu0,hpr]
       have hue:(u==0)=false:=by simpa using hu0
       rw[if_neg (by simp[hu0]),if_neg hu0] at hps;have hul:Ep q2.length u:=hli u (hum hu0).1;have hts:=EY hqt2 u;have hls:=Ed q2 u;rcases E2 hul with ⟨m,hm,e⟩|⟨m,hm,e⟩
       · have hse:Dg q2 u=q2.set m 1:=by rw[e];exact Ee q2 m
         rw[hse] at hps hts hls;have hg:=getD_some hm;have w3:IntKind.i64.wrap (u - 1)=(m:Int):=by rw[Ad (by omega) (by omega)];omega
         have hset:=El (q:=q2) (m:=m) (v:=1);generalize q2.set m 1=q3 at *;generalize q2.getD m 0=z0 at hg;simp[hx1,hL,Az,hd,hjl,zz3 hjl,hu0,hue,show 0<u by omega,show ¬ u<0 by omega,show ¬ u≤0 by omega,show 0≤u by omega,w3,hg,hset,w2];exact Ae hI2 hS2 hμ2 (k+1,q3,true) ⟨by simp;omega,by simp;omega,hts,hps⟩ (by simp;omega) ⟨[0,1],by simp⟩
       · have hse:Dg q2 u=q2.set m (-1):=by rw[e];exact Ef q2 m
         rw[hse] at hps hts hls;have hg:=getD_some hm;have w3:IntKind.i64.wrap (-u)=(m:Int)+1:=by rw[Ad (by omega) (by omega)];omega
         have w4:IntKind.i64.wrap (m:Int)=(m:Int):=Ad (by omega) (by omega);have hset:=El (q:=q2) (m:=m) (v:=-1);generalize q2.set m (-1)=q3 at *;generalize q2.getD m 0=z0 at hg;simp[hx1,hL,Az,hd,hjl,zz3 hjl,hu0,hue,show ¬ 0<u by omega,show u<0 by omega,show u≤0 by omega,show ¬ 0≤u by omega,w3,w4,hg,hset,w2];exact Ae hI2 hS2 hμ2 (k+1,q3,true) ⟨by simp;omega,by simp;omega,hts,hps⟩ (by simp;omega) ⟨[0,1],by simp⟩
   · have hk':k=cls.length:=by omega
     subst hk';rw[List.drop_length,Dt] at hps;rw[←hps] at hpr;obtain⟨f1,f2,f3,f4,f5⟩:=hpf q2 ch2 hps.symm;simp[hlt];refine Ae hI hS hμ (q2,ch2) ⟨hq2,hqt2,fun h=>?_,fun h=>?_⟩ ?_ ⟨[0,1],by simp⟩
     · subst h;exact hpr.symm
     · subst h;exact hpr
     · cases ch2 with
       | true=>have:=f4 rfl rfl;simp;omega
       | false=>simp;omega
theorem Gz {a:List Bool} {m:Nat} {b:Bool} (h:a[m]? = some b):E6 a ((m:Int)+1)=b:=by
 unfold E6;rw[if_pos (by omega),show ((m:Int)+1 - 1).toNat=m by omega,h]
 cases b<;>rfl
theorem FL {a:List Bool} {m:Nat} {b:Bool} (h:a[m]? = some b):E6 a (-((m:Int)+1))=!b:=by
 unfold E6;rw[if_neg (by omega),if_pos (by omega),show (- -((m:Int)+1) - 1).toNat=m by omega,h]
 cases b<;>rfl
def Gn (p:List Int) (a:List Bool):Prop:=∀ m b,a[m]? = some b→p.getD m 0=0∨p.getD m 0=(if b=true then 1 else -1)
theorem Uw (n:Nat) (a:List Bool):Gn (List.replicate n 0) a:=fun m b h=>.inl (by
 rw[List.getD_eq_getElem?_getD,List.getElem?_replicate]
 split<;>rfl)
theorem jQ {p:List Int} {a:List Bool} {l:Int} (hp:Gn p a) (hl:Ep a.length l):(DV p l=1→E6 a l=true)∧(DV p l=-1→E6 a l=false)∧(DV p l=0∨DV p l=1∨DV p l=-1):=by
 rcases E2 hl with ⟨m,hm,rfl⟩|⟨m,hm,rfl⟩
 · have hb:a[m]? = some a[m]:=zz0 hm;rw[Gz hb,OX];rcases hp m _ hb with h|h<;>rw[h]
   · simp
   · cases a[m]<;>simp
 · have hb:a[m]? = some a[m]:=zz0 hm;rw[FL hb,O0];rcases hp m _ hb with h|h<;>rw[h]
   · simp
   · cases a[m]<;>simp
theorem Xm {p:List Int} {a:List Bool} {l:Int} (hp:Gn p a) (hl:Ep a.length l) (ht:E6 a l=true):Gn (Dg p l) a:=by
 intro m' b' hb'
 have key:∀ (m:Nat) (v:Int),(m=m'→v=if b'=true then 1 else -1)→(p.set m v).getD m' 0=0∨(p.set m v).getD m' 0=(if b'=true then 1 else -1):=by
  intro m v h;rw[List.getD_eq_getElem?_getD,List.getElem?_set];by_cases e:m=m'
  · rw[if_pos e];split
    · exact .inr (h e)
    · exact .inl rfl
  · rw[if_neg e,←List.getD_eq_getElem?_getD];exact hp m' b' hb'
 rcases E2 hl with ⟨m,hm,rfl⟩|⟨m,hm,rfl⟩
 · have hb:a[m]? = some a[m]:=zz0 hm;rw[Gz hb] at ht;rw[Ee];refine key m 1 fun e=>?_;subst e;rw[hb] at hb'
   cases hb'
   rw[ht];rfl
 · have hb:a[m]? = some a[m]:=zz0 hm;rw[FL hb] at ht;rw[Ef];refine key m (-1) fun e=>?_;subst e;rw[hb] at hb'
   cases hb'
   cases h:a[m] with
   | true=>rw[h] at ht;cases ht
   | false=>rfl
theorem IX {p:List Int} {a:List Bool} (hp:Gn p a):∀ (cl:List Int) (u:Int),(∀ l∈cl,Ep a.length l)→(cl.any (E6 a)=true∨(u≠0∧E6 a u=true))→(DQ p cl u).2=false∧((DQ p cl u).1≠0→E6 a (DQ p cl u).1=true)
 | [],u,_,h=>by
   rcases h with h|⟨h1,h2⟩
   · simp at h
   · exact⟨by simpa [DQ] using h1,fun _=>h2⟩
 | l::ls,u,hl,h=>by
   obtain⟨v1,v2,v3⟩:=jQ hp (hl l (by simp));unfold DQ;by_cases e1:DV p l=1
   · rw[if_pos e1];exact⟨rfl,fun h=>absurd rfl h⟩
   rw[if_neg e1];by_cases e0:DV p l=0
   · rw[if_pos e0];by_cases hu:u≠0∧u≠l
     · rw[if_pos hu];exact⟨rfl,fun h=>absurd rfl h⟩
     · rw[if_neg hu];refine IX hp ls l (fun x hx=>hl x (by simp[hx])) ?_;rcases h with h|⟨h1,h2⟩
       · rw[List.any_cons,Bool.or_eq_true] at h;rcases h with h|h
         · exact .inr ⟨(hl l (by simp)).1,h⟩
         · exact .inl h
       · have:u=l:=by
          by_cases e:u=l
          · exact e
          · exact absurd ⟨h1,e⟩ hu
         rw[←this];exact .inr ⟨h1,h2⟩
   · rw[if_neg e0];refine IX hp ls u (fun x hx=>hl x (by simp[hx])) ?_;rcases h with h|h
     · rw[List.any_cons,v2 (by omega),Bool.false_or] at h;exact .inl h
     · exact .inr h
theorem Kk {a:List Bool}:∀ (cls:List (List Int)) (p:List Int) (ch:Bool),Gn p a→CA a.length cls→cls.all (Eb a)=true→∃ p' ch',Dt cls p ch=some (p',ch')∧Gn p' a
 | [],p,ch,hp,_,_=>⟨p,ch,rfl,hp⟩
 | c::cs,p,ch,hp,hc,ht=>by
   rw[List.all_cons,Bool.and_eq_true] at ht;have hin:=hc c (by simp);obtain⟨h1,h2⟩:=IX hp c 0 hin (.inl ht.1);have hu:CU p c=DQ p c 0:=rfl;unfold Dt;rw[if_neg (by rw[hu,h1];simp)];by_cases h0:(CU p c).1=0
   · rw[if_pos h0];exact Kk cs p ch hp (fun d hd=>hc d (by simp[hd])) ht.2
   · rw[if_neg h0];exact Kk cs _ true (Xm hp (hin _ (Hx h0).1) (h2 h0)) (fun d hd=>hc d (by simp[hd])) ht.2
theorem Wi {cls:List (List Int)} {a:List Bool} (hc:CA a.length cls) (ht:cls.all (Eb a)=true) {p:List Int} (hp:Gn p a):∃ p',ET cls p=some p'∧Gn p' a:=by
 generalize hn:Eh p=n
 induction n using Nat.strongRecOn generalizing p with
 | _ n ih =>
   subst hn;obtain⟨p',ch',h1,h2⟩:=Kk cls p false hp hc ht;rw[ET,h1];simp only;by_cases h:ch'=true∧Eh p'<Eh p
   · rw[if_pos h];exact ih _ h.2 h2 rfl
   · rw[if_neg h];exact⟨p',rfl,h2⟩
def KT (p q:List Int):Prop:=p.length=q.length∧∀ m,p.getD m 0≠0→q.getD m 0=p.getD m 0
def lW (cls:List (List Int)) (q:List Int):Prop:=∀ c∈cls,CU q c=(0,false)
theorem QV (p:List Int):KT p p:=⟨rfl,fun _ _=>rfl⟩
theorem FP {p q r:List Int} (h1:KT p q) (h2:KT q r):KT p r:=⟨h1.1.trans h2.1,fun m h=>by rw[h2.2 m (by rw[h1.2 m h];exact h),h1.2 m h]⟩
theorem Tz {p:List Int} {u:Int} (hu:Ep p.length u) (h0:DV p u=0):KT p (Dg p u):=by
 refine⟨(Ed _ _).symm,fun m' hne=>?_⟩
 have key:∀ (m:Nat) (x:Int),p.getD m 0=0→(p.set m x).getD m' 0=p.getD m' 0:=by
  intro m x hm;by_cases e:m=m'
  · subst e;exact absurd hm hne
  · rw[List.getD_eq_getElem?_getD,AB6 e,←List.getD_eq_getElem?_getD]
 rcases E2 hu with ⟨m,hm,rfl⟩|⟨m,hm,rfl⟩
 · rw[OX] at h0;rw[Ee];exact key m 1 h0
 · rw[O0] at h0;rw[Ef];exact key m (-1) (by omega)
theorem Lk:∀ {cls:List (List Int)} {p p':List Int} {ch ch':Bool},CA p.length cls→Dt cls p ch=some (p',ch')→KT p p'∧(ch'=false→p'=p∧lW cls p)
 | [],p,p',ch,ch',_,h=>by
   simp only[Dt,Option.some.injEq,Prod.mk.injEq] at h;obtain⟨rfl,rfl⟩:=h;exact⟨QV _,fun _=>⟨rfl,by simp[lW]⟩⟩
 | c::cs,p,p',ch,ch',hc,h=>by
   have hin:=hc c (by simp);unfold Dt at h;by_cases h1:(CU p c).2=true
   · rw[if_pos h1] at h;cases h
   rw[if_neg h1] at h;by_cases h0:(CU p c).1=0
   · rw[if_pos h0] at h;obtain⟨a,b⟩:=Lk (fun d hd=>hc d (by simp[hd])) h;refine⟨a,fun hf=>⟨(b hf).1,fun d hd=>?_⟩⟩;rcases List.mem_cons.1 hd with rfl|hd
     · exact Prod.ext h0 (by simpa using h1)
     · exact (b hf).2 d hd
   · rw[if_neg h0] at h;have hm:=Hx h0;obtain⟨a,b⟩:=Lk (by rw[Ed];exact fun d hd=>hc d (by simp[hd])) h;refine⟨FP (Tz (hin _ hm.1) hm.2) a,fun hf=>?_⟩;exfalso
     have hkeep:∀ (cs:List (List Int)) (p p':List Int) (ch':Bool),Dt cs p true=some (p',ch')→ch'=true:=by
      intro cs
      induction cs with
      | nil=>intro p p' ch' h;simp only[Dt,Option.some.injEq,Prod.mk.injEq] at h;exact h.2.symm
      | cons c cs ih =>
        intro p p' ch' h;unfold Dt at h;split at h
        · cases h
        · split at h
          · exact ih _ _ _ h
          · exact ih _ _ _ h
     rw[hkeep _ _ _ _ h] at hf
     cases hf
theorem cD {cls:List (List Int)} {p q:List Int} (hc:CA p.length cls) (ht:Dj p) (h:ET cls p=some q):lW cls q∧KT p q:=by
 generalize hn:Eh p=n
 induction n using Nat.strongRecOn generalizing p with
 | _ n ih =>
   subst hn;rw[Jd hc ht] at h
   cases hp:Dt cls p false with
   | none=>rw[hp] at h;cases h
   | some r =>
     obtain⟨p',ch⟩:=r;rw[hp] at h;obtain⟨h1,h2,h3,h4,_⟩:=EH hc ht hp;obtain⟨m1,m2⟩:=Lk hc hp
     cases ch with
     | false =>
       simp only[Option.some.injEq] at h;subst h;obtain⟨e,f⟩:=m2 rfl;rw[e];exact⟨f,QV _⟩
     | true =>
       obtain⟨a,b⟩:=ih _ (h4 rfl rfl) (by rw[h1];exact hc) h2 h rfl;exact⟨a,FP m1 b⟩
end Go.Proofs.YtnjedabjbeipeaaGreat
