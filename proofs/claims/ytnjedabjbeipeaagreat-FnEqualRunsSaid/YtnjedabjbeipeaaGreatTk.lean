/-
  The reference's search for one more path, by abstract walks.
  Conditions: those typed in each theorem.
-/
import Derived.Test.YtnjedabjbeipeaaGreatFa
import Derived.Test.YtnjedabjbeipeaaGreatGc
import Derived.Test.YtnjedabjbeipeaaGreatTa
import Derived.Test.YtnjedabjbeipeaaGreatPd
namespace Go.Proofs.YtnjedabjbeipeaaGreat
open Go.RowKit Go.ChangeShapes Go.WideShapes
set_option linter.unusedSimpArgs false
set_option linter.unusedVariables false
set_option maxRecDepth 100000
set_option maxHeartbeats 10000000
structure UJ (M:Nat) (es:Es):Prop where
 nd:(O7 es).Nodup
 lt:∀ t∈O7 es,t<M
 src:∀ p∈es,-1≤p.2∧p.2<M
theorem UJ.vis {M:Nat} {es:Es} (h:UJ M es) {t:Nat} {z:Int} (ht:t<M) (hz:-1≤z∧z<M):UJ M (qN z es t):=by
 unfold qN;split
 · exact h
 · rename_i hm;refine⟨?_,fun u hu=>?_,fun p hp=>?_⟩
   · simp only[O7,Gh,List.map_cons,List.map_nil] at hm ⊢
     exact List.nodup_append.2 ⟨h.nd,by simp,fun a ha b hb=>by
      simp only[Hz] at hb;subst hb
      exact fun e=>hm (e▸ha)⟩
   · simp only[O7,Gh,List.map_cons,List.map_nil,CO,Hz] at hu;rcases hu with hu|rfl
     · exact h.lt u hu
     · exact ht
   · rcases CO.1 hp with hp|hp
     · exact h.src p hp
     · rw[Hz.1 hp];exact hz
theorem UJ.all {M:Nat} {z:Int} (hz:-1≤z∧z<M):∀ {ts:List Nat} {es:Es},UJ M es→(∀ t∈ts,t<M)→UJ M (ts.foldl (qN z) es)
 | [],es,h,_=>h
 | t::ts,es,h,ht=>by
   rw[List.foldl_cons];exact UJ.all hz (h.vis (ht t (by simp)) hz) fun u hu=>ht u (by simp[hu])
theorem UJ.len {M:Nat} {es:Es} (h:UJ M es):es.length≤M:=by
 have:(O7 es).length≤(List.range M).length:=h.nd.length_le_of_subset fun t ht=>Gq.2 (h.lt t ht);simpa [O7] using this
def AB2 (N:Nat) (ab:List Int):Prop:=∀ k,-1≤H2 ab k∧H2 ab k<N
structure ACF (N:Nat) (s:StS):Prop where
 ul:s.1.length=N
 al:s.2.length=N
 ab:AB2 N s.2
section
attribute [local simp] Ee FE
structure Ll (x:AK) (k:Nat) (c:List Int):Prop where
 asc:MM c
 len:c.length≤4
 cone:∀ y∈c,∃ u:Nat,y=(u:Int)∧LZ (Aa x) (CK x) (CW x) k u
 noleak:¬ dV (Aa x) (CK x) (CW x) c k
theorem qT {c:List Int} (h:MM c):TP c=true:=ZU fun k hk=>by
 have h1:c[k]? = some c[k]:=A1 (by omega);have h2:c[k+1]? = some c[k+1]:=A1 (by omega);have h3:=ZP h h1 h2;rw[MB h1,show ((k:Int)+1)=((k+1:Nat):Int) by omega,MB h2];exact h3
theorem gO {x:AK} {k:Nat} {c:List Int} (hok:Al x=true) (hk:k<A0 x) (h:Ll x k c):Iz x k c=true:=by
 have h3:X5 (C2 (Du x k)) c=true:=GA.2 fun y hy=>by
  obtain⟨u,rfl,hr⟩:=h.cone y hy;rw[aT];exact (Vp hok hk u).2 hr
 have h4:(kY x c (k+1) k (List.replicate (A0 x) false)).1=false:=by
  cases he:(kY x c (k+1) k (List.replicate (A0 x) false)).1 with
  | false=>rfl
  | true=>exact absurd ((Wf (cut:=c) (Ea hok) hk).1 he) h.noleak
 unfold Iz;rw[A8 h.len,qT h.asc,h3,h4];rfl
theorem oD {x:AK} {i:Nat} {c:List Int} (hok:Al x=true) (hk:Aa x+i<A0 x) (h:Ll x (Aa x+i) c) (hn:((Aa x+i:Nat):Int)∉c):LK x c i=true:=by
 unfold LK;rw[gO hok hk h,show Li c ((Aa x+i:Nat):Int)=false from BH hn];rfl
theorem WM {F:Nat} {ka kb:Nat→Nat} {a c:List Int} (hs:∀ z,z∈a→z∈c) {v u:Nat} (h:Nw F ka kb c v u):Nw F ka kb a v u:=by
 have ho:∀ w,O9 c w→O9 a w:=fun w h=>⟨h.1,fun m=>h.2 (hs _ m)⟩
 induction h with
 | refl h=>exact .refl (ho _ h)
 | a h1 h2 r ih=>exact .a (ho _ h1) h2 ih
 | b h1 h2 r ih=>exact .b (ho _ h1) h2 ih
theorem QG {x:AK} {k:Nat} {a b c:List Int} (hF:Aa x≤k) (ha:Ll x (CK x k) a) (hb:Ll x (CW x k) b) (h:DM a b=some c):Ll x k c∧∀ y∈c,∃ u:Nat,y=(u:Int)∧(LZ (Aa x) (CK x) (CW x) (CK x k) u∨LZ (Aa x) (CK x) (CW x) (CW x k) u):=by
 unfold DM at h;split at h
 · rename_i hl;simp only[Option.some.injEq] at h;subst h;have hm:=E8 _ a b (Nat.le_refl _)
   have hc:∀ y∈Cf a b,∃ u:Nat,y=(u:Int)∧(LZ (Aa x) (CK x) (CW x) (CK x k) u∨LZ (Aa x) (CK x) (CW x) (CW x k) u):=fun y hy=>by
    rcases (hm y).1 hy with h|h
    · obtain⟨u,e,r⟩:=ha.cone y h;exact⟨u,e,.inl r⟩
    · obtain⟨u,e,r⟩:=hb.cone y h;exact⟨u,e,.inr r⟩
   refine⟨⟨HV _ a b (Nat.le_refl _) ha.asc hb.asc,hl,fun y hy=>?_,?_⟩,hc⟩
   · obtain⟨u,e,r⟩:=hc y hy;rcases r with r|r
     · exact⟨u,e,.a hF r⟩
     · exact⟨u,e,.b hF r⟩
   · rintro⟨u,ho,hu⟩
     cases ho with
     | refl _=>omega
     | a _ _ r=>exact ha.noleak ⟨u,WM (fun z hz=>(hm z).2 (.inl hz)) r,hu⟩
     | b _ _ r=>exact hb.noleak ⟨u,WM (fun z hz=>(hm z).2 (.inr hz)) r,hu⟩
 · cases h
theorem VS {x:AK} {k:Nat}:Ll x k [(k:Int)]:=by
 refine⟨by simp[MM],by simp,fun y hy=>⟨k,by simpa using hy,.refl _⟩,?_⟩;rintro⟨u,ho,hu⟩;exact ho.opn.2 (by simp)
theorem bY {x:AK}:Ll x 0 []:=by
 refine⟨by simp[MM],by simp,by simp,?_⟩;rintro⟨u,ho,hu⟩;exact ho.opn.1 rfl
theorem ZO {P:List Int→Prop} {a b:Fc} (h:∀ x∈a,∀ y∈b,∀ c,DM x y=some c→P c):∀ z∈HX a b,P z:=fun z hz=>by
 have:=(I0 (P:=P) (b:=b) a (l:=[]) ⟨List.Pairwise.nil,by simp⟩ h).1;exact this.all z (Mb.1 (List.mem_of_mem_take hz)).1
theorem ZT {F:Nat} {ka kb:Nat→Nat} {k q:Nat} (hq:q≤k):((HB F ka kb k)[q]?).getD []=((HB F ka kb q)[q]?).getD []:=by rw[Tx hq]
theorem fR {F:Nat} {ka kb:Nat→Nat} {k:Nat}:(HB F ka kb (k+1))[k+1]? = some (PG F ka kb (HB F ka kb k) (k+1)):=by
 show (HB F ka kb k++[PG F ka kb (HB F ka kb k) (k+1)])[k+1]? = _;rw[ET (by rw[E0];exact Nat.le_refl _),E0,Nat.sub_self];rfl
def EF (x:AK) (k:Nat):Fc:=((LX x k)[k]?).getD []
theorem Ro {x:AK} {k:Nat}:EF x (k+1)=(if Aa x≤k+1 then HX (((LX x k)[CK x (k+1)]?).getD []) (((LX x k)[CW x (k+1)]?).getD []) else [])++[[((k+1:Nat):Int)]]:=by
 unfold EF;rw[fR];rfl
theorem SA {x:AK} (hok:Al x=true) {k:Nat} (hF:Aa x≤k) (hk:k<A0 x):EF x k=HX (EF x (CK x k)) (EF x (CW x k))++[[(k:Int)]]:=by
 have hf:0<Aa x:=by unfold Aa;omega
 obtain⟨j,rfl⟩:∃ j,k=j+1:=⟨k - 1,by omega⟩;obtain⟨k1,k2⟩:=Ea hok _ hF hk;have ea:((LX x j)[CK x (j+1)]?).getD []=EF x (CK x (j+1)):=ZT (by omega);have eb:((LX x j)[CW x (j+1)]?).getD []=EF x (CW x (j+1)):=ZT (by omega);rw[Ro,if_pos hF,ea,eb]
theorem aR {x:AK} {k:Nat} (hF:k<Aa x):EF x k=if k=0 then [[]] else [[(k:Int)]]:=by
 cases k with
 | zero=>rfl
 | succ j=>rw[Ro,if_neg (by omega)];rfl
theorem Ja {x:AK} (hok:Al x=true):∀ k,k<A0 x→(∀ c∈EF x k,Ll x k c)∧∃ c∈EF x k,c.length≤1:=by
 intro k
 induction k using Nat.strongRecOn with
 | _ k ih =>
   intro hk;by_cases hF:Aa x≤k
   · obtain⟨k1,k2⟩:=Ea hok _ hF hk;rw[SA hok hF hk];refine⟨fun c hc=>?_,[(k:Int)],by simp,by simp⟩;rcases CO.1 hc with hc|hc
     · exact ZO (P:=Ll x k) (fun a ha b hb c h=>(QG hF ((ih _ k1 (by omega)).1 a ha) ((ih _ k2 (by omega)).1 b hb) h).1) c hc
     · rw[Hz.1 hc];exact VS
   · rw[aR (by omega)];split
     · rename_i h0;subst h0;exact⟨fun c hc=>by rw[Hz.1 hc];exact bY,[],by simp,by simp⟩
     · exact⟨fun c hc=>by rw[Hz.1 hc];exact VS,[(k:Int)],by simp,by simp⟩
theorem nU {l:Fc} {c:List Int}:GO l c≠[]:=by
 cases l with
 | nil=>simp[GO]
 | cons u l=>unfold GO;split<;>try split
             all_goals simp
theorem Zp {l:Fc} {o:Option (List Int)} (h:l≠[]∨o.isSome=true):R4 l o≠[]:=by
 cases o with
 | none=>rcases h with h|h;exact h;cases h
 | some c=>exact nU
theorem T5 {x:List Int}:∀ (b:Fc) {l:Fc},(l≠[]∨∃ y∈b,(DM x y).isSome=true)→LR x b l≠[]
 | [],l,h=>by
   rcases h with h|⟨y,hy,_⟩
   · exact h
   · cases hy
 | y::b,l,h=>by
   show LR x b (R4 l (DM x y))≠[];refine T5 b ?_;rcases h with h|⟨z,hz,hs⟩
   · exact .inl (Zp (.inl h))
   · rcases List.mem_cons.1 hz with rfl|hz
     · exact .inl (Zp (.inr hs))
     · exact .inr ⟨z,hz,hs⟩
theorem Zu {b:Fc}:∀ (a:Fc) {l:Fc},(l≠[]∨∃ x∈a,∃ y∈b,(DM x y).isSome=true)→a.foldl (fun l x=>LR x b l) l≠[]
 | [],l,h=>by
   rcases h with h|⟨y,hy,_⟩
   · exact h
   · cases hy
 | x::a,l,h=>by
   rw[List.foldl_cons];refine Zu a ?_;rcases h with h|⟨z,hz,y,hy,hs⟩
   · exact .inl (T5 b (.inl h))
   · rcases List.mem_cons.1 hz with rfl|hz
     · exact .inl (T5 b (.inr ⟨y,hy,hs⟩))
     · exact .inr ⟨z,hz,y,hy,hs⟩
theorem mS {a b:Fc} {u v:List Int} (hu:u∈a) (hv:v∈b) (h1:u.length≤1) (h2:v.length≤1):HX a b≠[]:=by
 have hm:(DM u v).isSome=true:=by
  unfold DM;rw[if_pos (by have:=(GM _ u v (Nat.le_refl _)).1;omega)];rfl
 have hc:SB a b≠[]:=Zu a (.inr ⟨u,hu,v,hv,hm⟩);have hs:OX (SB a b):=(I0 (P:=fun _=>True) (b:=b) a (l:=[]) ⟨List.Pairwise.nil,by simp⟩ (fun _ _ _ _ _ _=>trivial)).1.sort;unfold HX
 cases hcc:SB a b with
 | nil=>exact absurd hcc hc
 | cons w l =>
   rw[hcc] at hs;have hk:Hr (w::l) w=true:=by rw[TD (i:=0) hs rfl];rfl
   rw[List.filter_cons,if_pos hk];simp
theorem aS {x:AK} (hok:Al x=true) {i:Nat} (hk:Aa x+i<A0 x):2≤(EF x (Aa x+i)).length∧(EF x (Aa x+i)).length≤8∧∀ (q:Nat) (c:List Int),(EF x (Aa x+i))[q]? = some c→q+1<(EF x (Aa x+i)).length→LK x c i=true:=by
 obtain⟨k1,k2⟩:=Ea hok _ (Nat.le_add_right _ i) hk;obtain⟨ga,u,hu,hu1⟩:=Ja hok _ (show CK x (Aa x+i)<A0 x by omega);obtain⟨gb,v,hv,hv1⟩:=Ja hok _ (show CW x (Aa x+i)<A0 x by omega);have hne:=mS hu hv hu1 hv1;have hpos:=List.length_pos_iff.2 hne;have hj:=NG (a:=EF x (CK x (Aa x+i))) (b:=EF x (CW x (Aa x+i)));rw[SA hok (Nat.le_add_right _ i) hk];simp only[EM,List.length_singleton];refine⟨by omega,by omega,fun q c hq hlt=>?_⟩;rw[DZ (by omega)] at hq;have hc:=D4 hq;obtain⟨h1,h2⟩:=ZO (P:=fun c=>Ll x (Aa x+i) c∧_) (fun a ha b hb c h=>QG (Nat.le_add_right _ i) (ga a ha) (gb b hb) h) c hc;refine oD hok hk h1 fun hm=>?_;obtain⟨w,hw,hr⟩:=h2 _ hm
 have hle:w<Aa x+i:=by
  rcases hr with hr|hr
  · have:=LZ.le (Ea hok) hr (by omega);omega
  · have:=LZ.le (Ea hok) hr (by omega);omega
 omega
end
theorem mU {lv:List Int} {lit:Int} {xs:List Int} (h:lit∉xs):LF lv lit xs=if (Gz lv lit xs xs.length).2=true then (Gz lv lit xs xs.length).1 else (Gz lv lit xs xs.length).1++[lit]:=if_neg h
theorem OM (xs lv:List Int) (lit:Int) (hx:xs.length≤1048576) (hl:lv.length≤1048576) (h1:∀ y∈xs,0≤y∧y / 2<lv.length) (h2:0≤lit∧lit / 2<lv.length):BA Tryz.prog 74 [ints xs,ints lv,.d (.int .i64 lit)] (ints (LF lv lit xs)):=by
 have t1:=Cc (lv:=lv) (k:=lit / 2) (by omega);have v1:IntKind.i64.wrap (lit.tdiv 2)=lit / 2:=N1 h2.1 (by omega);have v2:¬ lit / 2<0:=by omega
 obtain⟨R,hR⟩:∃ R,LF lv lit xs=R:=⟨_,rfl⟩;rw[hR];refine A6 (by kernel_rfl) Tryz.func74 rfl rfl rfl ?_;simp;refine AJ [true,true,true,false,false,false,false,true,true,true] (fun i:Nat=>i≤xs.length∧lit∉xs.take i) (fun i:Nat=>[(7,.ref 0),(8,.d (.bool (Gz lv lit xs i).2)),(9,.d (.int .i64 i))]) (fun i:Nat=>fun _=>[.arr 3 true ((Gz lv lit xs i).1.map (e1 AC))]) (fun i:Nat=>xs.length - i) 0 ?_ ?_ ?_
 · exact⟨Nat.zero_le _,by simp⟩
 · exact⟨[0],by simp[Gz]⟩
 rintro I S μ hI hS hμ i ⟨hi,hni⟩;have hpl:=QV (lv:=lv) (lit:=lit) (xs:=xs) i;by_cases hlt:i<xs.length
 · obtain⟨y,hy⟩:∃ y,xs[i]? = some y:=⟨_,A1 hlt⟩;have hya:A3 xs i=y:=by unfold A3;rw[Int.toNat_natCast,hy];rfl
   have hym:=D4 hy;have hyr:=h1 y hym;have t2:=Cc (lv:=lv) (k:=y / 2) (by omega);have v3:IntKind.i64.wrap (y.tdiv 2)=y / 2:=N1 hyr.1 (by omega);have v4:¬ y / 2<0:=by omega
   have w1:IntKind.i64.wrap ((i:Int)+1)=(i:Int)+1:=Ad (by omega) (by omega)
   have hst:Gz lv lit xs (i+1)=if (Gz lv lit xs i).2=false∧jS lv lit y=true then ((Gz lv lit xs i).1++[lit]++[y],true) else ((Gz lv lit xs i).1++[y],(Gz lv lit xs i).2):=by
    rw[←hya];rfl
   have hcd:jS lv lit y=(decide (A3 lv (lit / 2)<A3 lv (y / 2))||(decide (A3 lv (lit / 2)=A3 lv (y / 2))&&decide (lit<y))):=rfl;by_cases he:y=lit
   · have hRx:R=xs:=by rw[←hR];exact if_pos (he▸hym)
     subst hRx;subst he;simp[A8 hlt,hy];refine Ak As rfl (by simp) rfl (by simp) (by simp) (by first | (simp;done)|(simp;omega)) (by simp[AR,AL]) ?_;simp
   · have heq:(y==lit)=false:=by simpa using he
     have hnext:lit∉xs.take (i+1):=by
      rw[Bb hy];intro hm;rcases CO.1 hm with hm|hm
      · exact hni hm
      · exact he (Hz.1 hm).symm
     obtain⟨P2,hP2⟩:∃ P2,Gz lv lit xs (i+1)=P2:=⟨_,rfl⟩;rw[hP2] at hst;generalize Gz lv lit xs i=P at *;obtain⟨o,dn⟩:=P;simp only at hst hpl;have hol:o.length≤1048577:=by split at hpl<;>omega
     generalize A3 lv (lit / 2)=b at *;generalize A3 lv (y / 2)=a at *
     cases dn with
     | true =>
       rw[if_neg (by simp)] at hst;simp[A8 hlt,hy,heq,v1,v2,v3,v4,t1,t2];refine Ak As rfl (by simp) rfl (by simp) (by simp) (by first | (simp;done)|(simp;omega)) (by simp[AR,AL]) ?_;simp[w1];exact Ae hI hS hμ (i+1) ⟨by omega,hnext⟩ (by omega) ⟨[2],by simp[hP2,hst]⟩
     | false =>
       by_cases hc1:b<a
       · rw[if_pos ⟨rfl,by rw[hcd,A8 hc1];rfl⟩] at hst;simp[A8 hlt,hy,heq,v1,v2,v3,v4,t1,t2,A8 hc1,hc1];refine Ak As rfl (by simp) rfl (by simp) (by simp) (by first | (simp;done)|(simp;omega)) (by simp[AR,AL]) ?_;simp[A8 hlt,hy];refine Ak As rfl (by simp) rfl (by simp) (by simp) (by first | (simp;done)|(simp;omega)) (by simp[AR,AL]) ?_;simp[w1];exact Ae hI hS hμ (i+1) ⟨by omega,hnext⟩ (by omega) ⟨[4],by simp[hP2,hst]⟩
       by_cases hc2:b=a
       · subst hc2;by_cases hc3:lit<y
         · rw[if_pos ⟨rfl,by rw[hcd];simp[hc3]⟩] at hst;simp[A8 hlt,hy,heq,v1,v2,v3,v4,t1,t2,A8 hc3,hc3];refine Ak As rfl (by simp) rfl (by simp) (by simp) (by first | (simp;done)|(simp;omega)) (by simp[AR,AL]) ?_;simp[A8 hlt,hy];refine Ak As rfl (by simp) rfl (by simp) (by simp) (by first | (simp;done)|(simp;omega)) (by simp[AR,AL]) ?_;simp[w1];exact Ae hI hS hμ (i+1) ⟨by omega,hnext⟩ (by omega) ⟨[4],by simp[hP2,hst]⟩
         · rw[if_neg (by rw[hcd];simp;omega)] at hst;simp[A8 hlt,hy,heq,v1,v2,v3,v4,t1,t2,BH hc3,hc3];refine Ak As rfl (by simp) rfl (by simp) (by simp) (by first | (simp;done)|(simp;omega)) (by simp[AR,AL]) ?_;simp[w1];exact Ae hI hS hμ (i+1) ⟨by omega,hnext⟩ (by omega) ⟨[2],by simp[hP2,hst]⟩
       · have hbe:(b==a)=false:=by simpa using hc2
         rw[if_neg (by rw[hcd];simp;omega)] at hst;simp[A8 hlt,hy,heq,v1,v2,v3,v4,t1,t2,BH hc1,hc1,hbe];refine Ak As rfl (by simp) rfl (by simp) (by simp) (by first | (simp;done)|(simp;omega)) (by simp[AR,AL]) ?_;simp[w1];exact Ae hI hS hμ (i+1) ⟨by omega,hnext⟩ (by omega) ⟨[2],by simp[hP2,hst]⟩
 obtain rfl:i=xs.length:=by omega
 rw[List.take_length] at hni;rw[mU hni] at hR;generalize Gz lv lit xs xs.length=P at *;obtain⟨o,dn⟩:=P;simp only at hR hpl;have hol:o.length≤1048577:=by split at hpl<;>omega
 cases dn with
 | true =>
   rw[if_pos rfl] at hR;simp[hlt,BH hlt,hR]
 | false =>
   rw[if_neg (by simp)] at hR;have hRm:R.map (e1 AC)=o.map (e1 AC)++[[.int .i64 lit]]:=by rw[←hR,Gh];rfl
   simp[hlt,BH hlt];refine Ak As rfl (by simp) rfl (by simp) (by simp) (by first | (simp;done)|(simp;omega)) (by simp[AR,AL]) ?_;simp[hRm]
theorem YM (x:AK) (v:Nat) (hx:CF 1048576 x) (hg:Kz x) (hok:Al x=true) (hv:v<A0 x) (hl:(EF x v).length≤8) (h4:∀ c∈EF x v,c.length≤4):CM Tryz.prog 77 [TC x,.d (.int .i64 v)] [] (.d (Zv (EF x v))) []:=by
 have kO:=Cr x hx hg;rw[hok] at kO;obtain⟨hF,hgl,hNi,hno⟩:=A9 hok;have kN:=Bw x;rw[hno] at kN;have kA:=W7 x v hx hok hv;obtain⟨l,hl1⟩:=Ue (x:=x) (Nat.le_refl v);have hE:EF x v=l:=by unfold EF;rw[hl1];rfl
 rw[hE] at hl h4 ⊢;generalize LX x v=al at *;have hL1:(eM l).length=1:=rfl;have hd0:¬ (v:Int)<0:=by omega
 have hdN:¬ (A0 x:Int)≤v:=by omega
 have hdN2:¬ A0 x≤v:=by omega
 refine BE (by kernel_rfl) Tryz.func77 rfl rfl rfl (by simp[Bl,Later]) (by simp[BP,Ah.live]) ?_;simp;refine Ab (kO) ?_;simp;refine Ab (kN) ?_;simp[hdN,hdN2];refine Ac (kA) [] [] (by simp) ?_;simp;refine AJ [false,true,false,false,false,true,true,true] (fun i:Nat=>i≤l.length) (fun i:Nat=>[(5,.ref 1),(6,.d (.sl 32 (al.map eM))),(7,.d (.int .i64 i))]) (fun i:Nat=>fun sl=>[E2 x,.arr 26 true ((l.take i).map Az)]) (fun i:Nat=>l.length - i) 0 ?_ ?_ ?_
 · simp
 · exact⟨[0,1],by simp[E2]⟩
 rintro I S μ hI hS hμ i hi;by_cases hlt:i<l.length
 · obtain⟨c,hc1⟩:∃ c,l[i]? = some c:=⟨_,A1 hlt⟩;have hd:=A8 hlt;have hc4:=h4 c (D4 hc1);have hLc:(Az c).length=1:=rfl;have hnx:(l.take (i+1)).map Az=(l.take i).map Az++[Az c]:=by rw[Bb hc1,Gh];rfl
   have hll:((l.take i).map Az).length=i:=by simp;omega
   have w1:IntKind.i64.wrap ((i:Int)+1)=(i:Int)+1:=Ad (by omega) (by omega);generalize (l.take i).map Az=ms at *;simp[hl1,hL1,hd,eM,e1,Dr,hc1,hLc,Az];refine Ak As rfl (by simp) rfl (by simp) (by simp) (by first | (simp;done)|(simp;omega)) (by simp[AR,AL]) ?_;simp
   first | refine Bu (q:=1) AM (by exact rfl) (by simp) (by exact rfl) (by exact rfl) (by simp) (by simp) (by first | (simp;done)|(simp;omega)) ?_|refine Bt AM (by exact rfl) (by simp) (by exact rfl) (by simp) (by first | (simp;done)|(simp;omega)) ?_
   simp[w1];exact Ae hI hS hμ (i+1) (by omega) (by omega) ⟨[0,5],by simp[hnx,Az,e1,Dr,AC,E2]⟩
 obtain rfl:i=l.length:=by omega
 rw[List.take_length];simp[hl1,hL1,hlt,BH hlt,eM,e1,Dr];exact⟨[],by simp⟩
end Go.Proofs.YtnjedabjbeipeaaGreat
