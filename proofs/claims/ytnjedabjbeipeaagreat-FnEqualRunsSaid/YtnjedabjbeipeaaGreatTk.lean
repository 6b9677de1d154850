/-
  The reference's search for one more path, by abstract walks.
  Conditions: those typed in each theorem.
-/
import Derived.Test.YtnjedabjbeipeaaGreatFa
import Derived.Test.YtnjedabjbeipeaaGreatGc
import Derived.Test.YtnjedabjbeipeaaGreatTa
import Derived.Test.YtnjedabjbeipeaaGreatPd
namespace Go.Proofs.YtnjedabjbeipeaaGreat
open Go.RowKit Go.ChangeShapes Go.WideShapes
set_option linter.unusedSimpArgs false
set_option linter.unusedVariables false
set_option maxRecDepth 100000
set_option maxHeartbeats 10000000
structure Uk (M:Nat) (es:Es):Prop where
 nd:(Ox es).Nodup
 lt:∀ t∈Ox es,t<M
 src:∀ p∈es,-1≤p.2∧p.2<M
theorem Uk.vis {M:Nat} {es:Es} (h:Uk M es) {t:Nat} {z:Int} (ht:t<M) (hz:-1≤z∧z<M):Uk M (pB z es t):=by
 unfold pB;split
 · exact h
 · rename_i hm;refine⟨?_,fun u hu=>?_,fun p hp=>?_⟩
   · simp only[Ox,ABe,List.map_cons,List.map_nil] at hm ⊢
     exact List.nodup_append.2 ⟨h.nd,by simp,fun a ha b hb=>by
      simp only[zz9] at hb;subst hb
      exact fun e=>hm (e▸ha)⟩
   · simp only[Ox,ABe,List.map_cons,List.map_nil,ACB,zz9] at hu;rcases hu with hu|rfl
     · exact h.lt u hu
     · exact ht
   · rcases ACB.1 hp with hp|hp
     · exact h.src p hp
     · rw[zz9.1 hp];exact hz
theorem Uk.all {M:Nat} {z:Int} (hz:-1≤z∧z<M):∀ {ts:List Nat} {es:Es},Uk M es→(∀ t∈ts,t<M)→Uk M (ts.foldl (pB z) es)
 | [],es,h,_=>h
 | t::ts,es,h,ht=>by
   rw[List.foldl_cons];exact Uk.all hz (h.vis (ht t (by simp)) hz) fun u hu=>ht u (by simp[hu])
theorem Uk.len {M:Nat} {es:Es} (h:Uk M es):es.length≤M:=by
 have:(Ox es).length≤(List.range M).length:=h.nd.length_le_of_subset fun t ht=>ABw.2 (h.lt t ht);simpa [Ox] using this
def ABS (N:Nat) (ab:List Int):Prop:=∀ k,-1≤Hw ab k∧Hw ab k<N
structure ABj (N:Nat) (s:StS):Prop where
 ul:s.1.length=N
 al:s.2.length=N
 ab:ABS N s.2
section
attribute [local simp] D1 Fj
structure KX (x:AK) (k:Nat) (c:List Int):Prop where
 asc:Mm c
 len:c.length≤4
 cone:∀ y∈c,∃ u:Nat,y=(u:Int)∧Lt (Aa x) (CF x) (CP x) k u
 noleak:¬ aW (Aa x) (CF x) (CP x) c k
theorem oJ {c:List Int} (h:Mm c):Ui c=true:=YZ fun k hk=>by
 have h1:c[k]? = some c[k]:=zz0 (by omega);have h2:c[k+1]? = some c[k+1]:=zz0 (by omega);have h3:=YO h h1 h2;rw[Me h1,show ((k:Int)+1)=((k+1:Nat):Int) by omega,Me h2];exact h3
theorem jC {x:AK} {k:Nat} {c:List Int} (hok:Al x=true) (hk:k<A0 x) (h:KX x k c):H7 x k c=true:=by
 have h3:Xd (CV (Di x k)) c=true:=zz8.2 fun y hy=>by
  obtain⟨u,rfl,hr⟩:=h.cone y hy;rw[Zu];exact (U6 hok hk u).2 hr
 have h4:(eS x c (k+1) k (List.replicate (A0 x) false)).1=false:=by
  cases he:(eS x c (k+1) k (List.replicate (A0 x) false)).1 with
  | false=>rfl
  | true=>exact absurd ((UU (cut:=c) (DX hok) hk).1 he) h.noleak
 unfold H7;rw[zz2 h.len,oJ h.asc,h3,h4];rfl
theorem lE {x:AK} {i:Nat} {c:List Int} (hok:Al x=true) (hk:Aa x+i<A0 x) (h:KX x (Aa x+i) c) (hn:((Aa x+i:Nat):Int)∉c):K8 x c i=true:=by
 unfold K8;rw[jC hok hk h,show KP c ((Aa x+i:Nat):Int)=false from zz3 hn];rfl
theorem Wm {F:Nat} {ka kb:Nat→Nat} {a c:List Int} (hs:∀ z,z∈a→z∈c) {v u:Nat} (h:MC F ka kb c v u):MC F ka kb a v u:=by
 have ho:∀ w,OE c w→OE a w:=fun w h=>⟨h.1,fun m=>h.2 (hs _ m)⟩
 induction h with
 | refl h=>exact .refl (ho _ h)
 | a h1 h2 r ih=>exact .a (ho _ h1) h2 ih
 | b h1 h2 r ih=>exact .b (ho _ h1) h2 ih
theorem PD {x:AK} {k:Nat} {a b c:List Int} (hF:Aa x≤k) (ha:KX x (CF x k) a) (hb:KX x (CP x k) b) (h:Dz a b=some c):KX x k c∧∀ y∈c,∃ u:Nat,y=(u:Int)∧(Lt (Aa x) (CF x) (CP x) (CF x k) u∨Lt (Aa x) (CF x) (CP x) (CP x k) u):=by
 unfold Dz at h;split at h
 · rename_i hl;simp only[Option.some.injEq] at h;subst h;have hm:=ES _ a b (Nat.le_refl _)
   have hc:∀ y∈Cc a b,∃ u:Nat,y=(u:Int)∧(Lt (Aa x) (CF x) (CP x) (CF x k) u∨Lt (Aa x) (CF x) (CP x) (CP x k) u):=fun y hy=>by
    rcases (hm y).1 hy with h|h
    · obtain⟨u,e,r⟩:=ha.cone y h;exact⟨u,e,.inl r⟩
    · obtain⟨u,e,r⟩:=hb.cone y h;exact⟨u,e,.inr r⟩
   refine⟨⟨Hp _ a b (Nat.le_refl _) ha.asc hb.asc,hl,fun y hy=>?_,?_⟩,hc⟩
   · obtain⟨u,e,r⟩:=hc y hy;rcases r with r|r
     · exact⟨u,e,.a hF r⟩
     · exact⟨u,e,.b hF r⟩
   · rintro⟨u,ho,hu⟩
     cases ho with
     | refl _=>omega
     | a _ _ r=>exact ha.noleak ⟨u,Wm (fun z hz=>(hm z).2 (.inl hz)) r,hu⟩
     | b _ _ r=>exact hb.noleak ⟨u,Wm (fun z hz=>(hm z).2 (.inr hz)) r,hu⟩
 · cases h
theorem U8 {x:AK} {k:Nat}:KX x k [(k:Int)]:=by
 refine⟨by simp[Mm],by simp,fun y hy=>⟨k,by simpa using hy,.refl _⟩,?_⟩;rintro⟨u,ho,hu⟩;exact ho.opn.2 (by simp)
theorem bS {x:AK}:KX x 0 []:=by
 refine⟨by simp[Mm],by simp,by simp,?_⟩;rintro⟨u,ho,hu⟩;exact ho.opn.1 rfl
theorem Y1 {P:List Int→Prop} {a b:EI} (h:∀ x∈a,∀ y∈b,∀ c,Dz x y=some c→P c):∀ z∈Hu a b,P z:=fun z hz=>by
 have:=(Ig (P:=P) (b:=b) a (l:=[]) ⟨List.Pairwise.nil,by simp⟩ h).1;exact this.all z (ABx.1 (List.mem_of_mem_take hz)).1
theorem Y6 {F:Nat} {ka kb:Nat→Nat} {k q:Nat} (hq:q≤k):((Hc F ka kb k)[q]?).getD []=((Hc F ka kb q)[q]?).getD []:=by rw[RU hq]
theorem jH {F:Nat} {ka kb:Nat→Nat} {k:Nat}:(Hc F ka kb (k+1))[k+1]? = some (PX F ka kb (Hc F ka kb k) (k+1)):=by
 show (Hc F ka kb k++[PX F ka kb (Hc F ka kb k) (k+1)])[k+1]? = _;rw[zz5 (by rw[EX];exact Nat.le_refl _),EX,Nat.sub_self];rfl
def Em (x:AK) (k:Nat):EI:=((Lb x k)[k]?).getD []
theorem QK {x:AK} {k:Nat}:Em x (k+1)=(if Aa x≤k+1 then Hu (((Lb x k)[CF x (k+1)]?).getD []) (((Lb x k)[CP x (k+1)]?).getD []) else [])++[[((k+1:Nat):Int)]]:=by
 unfold Em;rw[jH];rfl
theorem SL {x:AK} (hok:Al x=true) {k:Nat} (hF:Aa x≤k) (hk:k<A0 x):Em x k=Hu (Em x (CF x k)) (Em x (CP x k))++[[(k:Int)]]:=by
 have hf:0<Aa x:=by unfold Aa;omega
 obtain⟨j,rfl⟩:∃ j,k=j+1:=⟨k - 1,by omega⟩;obtain⟨k1,k2⟩:=DX hok _ hF hk;have ea:((Lb x j)[CF x (j+1)]?).getD []=Em x (CF x (j+1)):=Y6 (by omega);have eb:((Lb x j)[CP x (j+1)]?).getD []=Em x (CP x (j+1)):=Y6 (by omega);rw[QK,if_pos hF,ea,eb]
theorem Z6 {x:AK} {k:Nat} (hF:k<Aa x):Em x k=if k=0 then [[]] else [[(k:Int)]]:=by
 cases k with
 | zero=>rfl
 | succ j=>rw[QK,if_neg (by omega)];rfl
theorem IZ {x:AK} (hok:Al x=true):∀ k,k<A0 x→(∀ c∈Em x k,KX x k c)∧∃ c∈Em x k,c.length≤1:=by
 intro k
 induction k using Nat.strongRecOn with
 | _ k ih =>
   intro hk;by_cases hF:Aa x≤k
   · obtain⟨k1,k2⟩:=DX hok _ hF hk;rw[SL hok hF hk];refine⟨fun c hc=>?_,[(k:Int)],by simp,by simp⟩;rcases ACB.1 hc with hc|hc
     · exact Y1 (P:=KX x k) (fun a ha b hb c h=>(PD hF ((ih _ k1 (by omega)).1 a ha) ((ih _ k2 (by omega)).1 b hb) h).1) c hc
     · rw[zz9.1 hc];exact U8
   · rw[Z6 (by omega)];split
     · rename_i h0;subst h0;exact⟨fun c hc=>by rw[zz9.1 hc];exact bS,[],by simp,by simp⟩
     · exact⟨fun c hc=>by rw[zz9.1 hc];exact U8,[(k:Int)],by simp,by simp⟩
theorem mN {l:EI} {c:List Int}:Gm l c≠[]:=by
 cases l with
 | nil=>simp[Gm]
 | cons u l=>unfold Gm;split<;>try split
             all_goals simp
theorem Zq {l:EI} {o:Option (List Int)} (h:l≠[]∨o.isSome=true):Rj l o≠[]:=by
 cases o with
 | none=>rcases h with h|h;exact h;cases h
 | some c=>exact mN
theorem TM {x:List Int}:∀ (b:EI) {l:EI},(l≠[]∨∃ y∈b,(Dz x y).isSome=true)→Ll x b l≠[]
 | [],l,h=>by
   rcases h with h|⟨y,hy,_⟩
   · exact h
   · cases hy
 | y::b,l,h=>by
   show Ll x b (Rj l (Dz x y))≠[];refine TM b ?_;rcases h with h|⟨z,hz,hs⟩
   · exact .inl (Zq (.inl h))
   · rcases List.mem_cons.1 hz with rfl|hz
     · exact .inl (Zq (.inr hs))
     · exact .inr ⟨z,hz,hs⟩
theorem YE {b:EI}:∀ (a:EI) {l:EI},(l≠[]∨∃ x∈a,∃ y∈b,(Dz x y).isSome=true)→a.foldl (fun l x=>Ll x b l) l≠[]
 | [],l,h=>by
   rcases h with h|⟨y,hy,_⟩
   · exact h
   · cases hy
 | x::a,l,h=>by
   rw[List.foldl_cons];refine YE a ?_;rcases h with h|⟨z,hz,y,hy,hs⟩
   · exact .inl (TM b (.inl h))
   · rcases List.mem_cons.1 hz with rfl|hz
     · exact .inl (TM b (.inr ⟨y,hy,hs⟩))
     · exact .inr ⟨z,hz,y,hy,hs⟩
theorem kQ {a b:EI} {u v:List Int} (hu:u∈a) (hv:v∈b) (h1:u.length≤1) (h2:v.length≤1):Hu a b≠[]:=by
 have hm:(Dz u v).isSome=true:=by
  unfold Dz;rw[if_pos (by have:=(Gk _ u v (Nat.le_refl _)).1;omega)];rfl
 have hc:RD a b≠[]:=YE a (.inr ⟨u,hu,v,hv,hm⟩);have hs:NP (RD a b):=(Ig (P:=fun _=>True) (b:=b) a (l:=[]) ⟨List.Pairwise.nil,by simp⟩ (fun _ _ _ _ _ _=>trivial)).1.sort;unfold Hu
 cases hcc:RD a b with
 | nil=>exact absurd hcc hc
 | cons w l =>
   rw[hcc] at hs;have hk:G1 (w::l) w=true:=by rw[SX (i:=0) hs rfl];rfl
   rw[List.filter_cons,if_pos hk];simp
theorem bV {x:AK} (hok:Al x=true) {i:Nat} (hk:Aa x+i<A0 x):2≤(Em x (Aa x+i)).length∧(Em x (Aa x+i)).length≤8∧∀ (q:Nat) (c:List Int),(Em x (Aa x+i))[q]? = some c→q+1<(Em x (Aa x+i)).length→K8 x c i=true:=by
 obtain⟨k1,k2⟩:=DX hok _ (Nat.le_add_right _ i) hk;obtain⟨ga,u,hu,hu1⟩:=IZ hok _ (show CF x (Aa x+i)<A0 x by omega);obtain⟨gb,v,hv,hv1⟩:=IZ hok _ (show CP x (Aa x+i)<A0 x by omega);have hne:=kQ hu hv hu1 hv1;have hpos:=List.length_pos_iff.2 hne;have hj:=Nz (a:=Em x (CF x (Aa x+i))) (b:=Em x (CP x (Aa x+i)));rw[SL hok (Nat.le_add_right _ i) hk];simp only[AB0,List.length_singleton];refine⟨by omega,by omega,fun q c hq hlt=>?_⟩;rw[zz4 (by omega)] at hq;have hc:=zz6 hq;obtain⟨h1,h2⟩:=Y1 (P:=fun c=>KX x (Aa x+i) c∧_) (fun a ha b hb c h=>PD (Nat.le_add_right _ i) (ga a ha) (gb b hb) h) c hc;refine lE hok hk h1 fun hm=>?_;obtain⟨w,hw,hr⟩:=h2 _ hm
 have hle:w<Aa x+i:=by
  rcases hr with hr|hr
  · have:=Lt.le (DX hok) hr (by omega);omega
  · have:=Lt.le (DX hok) hr (by omega);omega
 omega
end
theorem kW {lv:List Int} {lit:Int} {xs:List Int} (h:lit∉xs):Lm lv lit xs=if (F8 lv lit xs xs.length).2=true then (F8 lv lit xs xs.length).1 else (F8 lv lit xs xs.length).1++[lit]:=if_neg h
theorem Oa (xs lv:List Int) (lit:Int) (hx:xs.length≤1048576) (hl:lv.length≤1048576) (h1:∀ y∈xs,0≤y∧y / 2<lv.length) (h2:0≤lit∧lit / 2<lv.length):Bx Tryz.prog 74 [ints xs,ints lv,.d (.int .i64 lit)] (ints (Lm lv lit xs)):=by
 have t1:=B8 (lv:=lv) (k:=lit / 2) (by omega);have v1:IntKind.i64.wrap (lit.tdiv 2)=lit / 2:=M5 h2.1 (by omega);have v2:¬ lit / 2<0:=by omega
 obtain⟨R,hR⟩:∃ R,Lm lv lit xs=R:=⟨_,rfl⟩;rw[hR];refine A5 (by kernel_rfl) Tryz.func74 rfl rfl rfl ?_;simp;refine AH [true,true,true,false,false,false,false,true,true,true] (fun i:Nat=>i≤xs.length∧lit∉xs.take i) (fun i:Nat=>[(7,.ref 0),(8,.d (.bool (F8 lv lit xs i).2)),(9,.d (.int .i64 i))]) (fun i:Nat=>fun _=>[.arr 3 true ((F8 lv lit xs i).1.map (e1 AC))]) (fun i:Nat=>xs.length - i) 0 ?_ ?_ ?_
 · exact⟨Nat.zero_le _,by simp⟩
 · exact⟨[0],by simp[F8]⟩
 rintro I S μ hI hS hμ i ⟨hi,hni⟩;have hpl:=PM (lv:=lv) (lit:=lit) (xs:=xs) i;by_cases hlt:i<xs.length
 · obtain⟨y,hy⟩:∃ y,xs[i]? = some y:=⟨_,zz0 hlt⟩;have hya:A1 xs i=y:=by unfold A1;rw[Int.toNat_natCast,hy];rfl
   have hym:=zz6 hy;have hyr:=h1 y hym;have t2:=B8 (lv:=lv) (k:=y / 2) (by omega);have v3:IntKind.i64.wrap (y.tdiv 2)=y / 2:=M5 hyr.1 (by omega);have v4:¬ y / 2<0:=by omega
   have w1:IntKind.i64.wrap ((i:Int)+1)=(i:Int)+1:=Ad (by omega) (by omega)
   have hst:F8 lv lit xs (i+1)=if (F8 lv lit xs i).2=false∧iM lv lit y=true then ((F8 lv lit xs i).1++[lit]++[y],true) else ((F8 lv lit xs i).1++[y],(F8 lv lit xs i).2):=by
    rw[←hya];rfl
   have hcd:iM lv lit y=(decide (A1 lv (lit / 2)<A1 lv (y / 2))||(decide (A1 lv (lit / 2)=A1 lv (y / 2))&&decide (lit<y))):=rfl;by_cases he:y=lit
   · have hRx:R=xs:=by rw[←hR];exact if_pos (he▸hym)
     subst hRx;subst he;simp[zz2 hlt,hy];refine Ak As rfl (by simp) rfl (by simp) (by simp) (by first | (simp;done)|(simp;omega)) (by simp[AR,AL]) ?_;simp
   · have heq:(y==lit)=false:=by simpa using he
     have hnext:lit∉xs.take (i+1):=by
      rw[Ba hy];intro hm;rcases ACB.1 hm with hm|hm
      · exact hni hm
      · exact he (zz9.1 hm).symm
     obtain⟨P2,hP2⟩:∃ P2,F8 lv lit xs (i+1)=P2:=⟨_,rfl⟩;rw[hP2] at hst;generalize F8 lv lit xs i=P at *;obtain⟨o,dn⟩:=P;simp only at hst hpl;have hol:o.length≤1048577:=by split at hpl<;>omega
     generalize A1 lv (lit / 2)=b at *;generalize A1 lv (y / 2)=a at *
     cases dn with
     | true =>
       rw[if_neg (by simp)] at hst;simp[zz2 hlt,hy,heq,v1,v2,v3,v4,t1,t2];refine Ak As rfl (by simp) rfl (by simp) (by simp) (by first | (simp;done)|(simp;omega)) (by simp[AR,AL]) ?_;simp[w1];exact Ae hI hS hμ (i+1) ⟨by omega,hnext⟩ (by omega) ⟨[2],by simp[hP2,hst]⟩
     | false =>
       by_cases hc1:b<a
       · rw[if_pos ⟨rfl,by rw[hcd,zz2 hc1];rfl⟩] at hst;simp[zz2 hlt,hy,heq,v1,v2,v3,v4,t1,t2,zz2 hc1,hc1];refine Ak As rfl (by simp) rfl (by simp) (by simp) (by first | (simp;done)|(simp;omega)) (by simp[AR,AL]) ?_;simp[zz2 hlt,hy];refine Ak As rfl (by simp) rfl (by simp) (by simp) (by first | (simp;done)|(simp;omega)) (by simp[AR,AL]) ?_;simp[w1];exact Ae hI hS hμ (i+1) ⟨by omega,hnext⟩ (by omega) ⟨[4],by simp[hP2,hst]⟩
       by_cases hc2:b=a
       · subst hc2;by_cases hc3:lit<y
         · rw[if_pos ⟨rfl,by rw[hcd];simp[hc3]⟩] at hst;simp[zz2 hlt,hy,heq,v1,v2,v3,v4,t1,t2,zz2 hc3,hc3];refine Ak As rfl (by simp) rfl (by simp) (by simp) (by first | (simp;done)|(simp;omega)) (by simp[AR,AL]) ?_;simp[zz2 hlt,hy];refine Ak As rfl (by simp) rfl (by simp) (by simp) (by first | (simp;done)|(simp;omega)) (by simp[AR,AL]) ?_;simp[w1];exact Ae hI hS hμ (i+1) ⟨by omega,hnext⟩ (by omega) ⟨[4],by simp[hP2,hst]⟩
         · rw[if_neg (by rw[hcd];simp;omega)] at hst;simp[zz2 hlt,hy,heq,v1,v2,v3,v4,t1,t2,zz3 hc3,hc3];refine Ak As rfl (by simp) rfl (by simp) (by simp) (by first | (simp;done)|(simp;omega)) (by simp[AR,AL]) ?_;simp[w1];exact Ae hI hS hμ (i+1) ⟨by omega,hnext⟩ (by omega) ⟨[2],by simp[hP2,hst]⟩
       · have hbe:(b==a)=false:=by simpa using hc2
         rw[if_neg (by rw[hcd];simp;omega)] at hst;simp[zz2 hlt,hy,heq,v1,v2,v3,v4,t1,t2,zz3 hc1,hc1,hbe];refine Ak As rfl (by simp) rfl (by simp) (by simp) (by first | (simp;done)|(simp;omega)) (by simp[AR,AL]) ?_;simp[w1];exact Ae hI hS hμ (i+1) ⟨by omega,hnext⟩ (by omega) ⟨[2],by simp[hP2,hst]⟩
 obtain rfl:i=xs.length:=by omega
 rw[List.take_length] at hni;rw[kW hni] at hR;generalize F8 lv lit xs xs.length=P at *;obtain⟨o,dn⟩:=P;simp only at hR hpl;have hol:o.length≤1048577:=by split at hpl<;>omega
 cases dn with
 | true =>
   rw[if_pos rfl] at hR;simp[hlt,zz3 hlt,hR]
 | false =>
   rw[if_neg (by simp)] at hR;have hRm:R.map (e1 AC)=o.map (e1 AC)++[[.int .i64 lit]]:=by rw[←hR,ABe];rfl
   simp[hlt,zz3 hlt];refine Ak As rfl (by simp) rfl (by simp) (by simp) (by first | (simp;done)|(simp;omega)) (by simp[AR,AL]) ?_;simp[hRm]
theorem Yc (x:AK) (v:Nat) (hx:Cz 1048576 x) (hg:JO x) (hok:Al x=true) (hv:v<A0 x) (hl:(Em x v).length≤8) (h4:∀ c∈Em x v,c.length≤4):CG Tryz.prog 77 [RW x,.d (.int .i64 v)] [] (.d (Zf (Em x v))) []:=by
 have kO:=Co x hx hg;rw[hok] at kO;obtain⟨hF,hgl,hNi,hno⟩:=A7 hok;have kN:=Bt x;rw[hno] at kN;have kA:=Wr x v hx hok hv;obtain⟨l,hl1⟩:=Tt (x:=x) (Nat.le_refl v);have hE:Em x v=l:=by unfold Em;rw[hl1];rfl
 rw[hE] at hl h4 ⊢;generalize Lb x v=al at *;have hL1:(cS l).length=1:=rfl;have hd0:¬ (v:Int)<0:=by omega
 have hdN:¬ (A0 x:Int)≤v:=by omega
 have hdN2:¬ A0 x≤v:=by omega
 refine BA (by kernel_rfl) Tryz.func77 rfl rfl rfl (by simp[Bi,Later]) (by simp[BN,Ah.live]) ?_;simp;refine Ab (kO) ?_;simp;refine Ab (kN) ?_;simp[hdN,hdN2];refine Ac (kA) [] [] (by simp) ?_;simp;refine AH [false,true,false,false,false,true,true,true] (fun i:Nat=>i≤l.length) (fun i:Nat=>[(5,.ref 1),(6,.d (.sl 32 (al.map cS))),(7,.d (.int .i64 i))]) (fun i:Nat=>fun sl=>[ED x,.arr 26 true ((l.take i).map Az)]) (fun i:Nat=>l.length - i) 0 ?_ ?_ ?_
 · simp
 · exact⟨[0,1],by simp[ED]⟩
 rintro I S μ hI hS hμ i hi;by_cases hlt:i<l.length
 · obtain⟨c,hc1⟩:∃ c,l[i]? = some c:=⟨_,zz0 hlt⟩;have hd:=zz2 hlt;have hc4:=h4 c (zz6 hc1);have hLc:(Az c).length=1:=rfl;have hnx:(l.take (i+1)).map Az=(l.take i).map Az++[Az c]:=by rw[Ba hc1,ABe];rfl
   have hll:((l.take i).map Az).length=i:=by simp;omega
   have w1:IntKind.i64.wrap ((i:Int)+1)=(i:Int)+1:=Ad (by omega) (by omega);generalize (l.take i).map Az=ms at *;simp[hl1,hL1,hd,cS,e1,Dh,hc1,hLc,Az];refine Ak As rfl (by simp) rfl (by simp) (by simp) (by first | (simp;done)|(simp;omega)) (by simp[AR,AL]) ?_;simp
   first | refine Bs (q:=1) AM (by exact rfl) (by simp) (by exact rfl) (by exact rfl) (by simp) (by simp) (by first | (simp;done)|(simp;omega)) ?_|refine Br AM (by exact rfl) (by simp) (by exact rfl) (by simp) (by first | (simp;done)|(simp;omega)) ?_
   simp[w1];exact Ae hI hS hμ (i+1) (by omega) (by omega) ⟨[0,5],by simp[hnx,Az,e1,Dh,AC,ED]⟩
 obtain rfl:i=l.length:=by omega
 rw[List.take_length];simp[hl1,hL1,hlt,zz3 hlt,cS,e1,Dh];exact⟨[],by simp⟩
end Go.Proofs.YtnjedabjbeipeaaGreat
