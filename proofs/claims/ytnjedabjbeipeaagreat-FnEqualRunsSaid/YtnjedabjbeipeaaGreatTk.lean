/-
  The reference's search for one more path, by abstract walks.
  Conditions: those typed in each theorem.
-/
import Derived.Test.YtnjedabjbeipeaaGreatFa
import Derived.Test.YtnjedabjbeipeaaGreatGc
import Derived.Test.YtnjedabjbeipeaaGreatTa
import Derived.Test.YtnjedabjbeipeaaGreatPd
namespace Go.Proofs.YtnjedabjbeipeaaGreat
open Go.RowKit Go.ChangeShapes Go.WideShapes
set_option linter.unusedSimpArgs false
set_option linter.unusedVariables false
set_option maxRecDepth 100000
set_option maxHeartbeats 10000000
structure TZ (M:Nat) (es:Es):Prop where
 nd:(Pa es).Nodup
 lt:∀ t∈Pa es,t<M
 src:∀ p∈es,-1≤p.2∧p.2<M
theorem TZ.vis {M:Nat} {es:Es} (h:TZ M es) {t:Nat} {z:Int} (ht:t<M) (hz:-1≤z∧z<M):TZ M (pZ z es t):=by
 unfold pZ;split
 · exact h
 · rename_i hm;refine⟨?_,fun u hu=>?_,fun p hp=>?_⟩
   · simp only[Pa,Gp,List.map_cons,List.map_nil] at hm ⊢
     exact List.nodup_append.2 ⟨h.nd,by simp,fun a ha b hb=>by
      simp only[HE] at hb;subst hb
      exact fun e=>hm (e▸ha)⟩
   · simp only[Pa,Gp,List.map_cons,List.map_nil,CO,HE] at hu;rcases hu with hu|rfl
     · exact h.lt u hu
     · exact ht
   · rcases CO.1 hp with hp|hp
     · exact h.src p hp
     · rw[HE.1 hp];exact hz
theorem TZ.all {M:Nat} {z:Int} (hz:-1≤z∧z<M):∀ {ts:List Nat} {es:Es},TZ M es→(∀ t∈ts,t<M)→TZ M (ts.foldl (pZ z) es)
 | [],es,h,_=>h
 | t::ts,es,h,ht=>by
   rw[List.foldl_cons];exact TZ.all hz (h.vis (ht t (by simp)) hz) fun u hu=>ht u (by simp[hu])
theorem TZ.len {M:Nat} {es:Es} (h:TZ M es):es.length≤M:=by
 have:(Pa es).length≤(List.range M).length:=h.nd.length_le_of_subset fun t ht=>Gu.2 (h.lt t ht);simpa [Pa] using this
def AB7 (N:Nat) (ab:List Int):Prop:=∀ k,-1≤HR ab k∧HR ab k<N
structure ACN (N:Nat) (s:StS):Prop where
 ul:s.1.length=N
 al:s.2.length=N
 ab:AB7 N s.2
section
attribute [local simp] Ed FG
structure Ln (x:AK) (k:Nat) (c:List Int):Prop where
 asc:MT c
 len:c.length≤4
 cone:∀ y∈c,∃ u:Nat,y=(u:Int)∧L4 (Aa x) (CL x) (CW x) k u
 noleak:¬ aO (Aa x) (CL x) (CW x) c k
theorem qB {c:List Int} (h:MT c):Ub c=true:=ZA fun k hk=>by
 have h1:c[k]? = some c[k]:=A1 (by omega);have h2:c[k+1]? = some c[k+1]:=A1 (by omega);have h3:=Zo h h1 h2;rw[ML h1,show ((k:Int)+1)=((k+1:Nat):Int) by omega,ML h2];exact h3
theorem lQ {x:AK} {k:Nat} {c:List Int} (hok:Al x=true) (hk:k<A0 x) (h:Ln x k c):ID x k c=true:=by
 have h3:X7 (C4 (Dr x k)) c=true:=Gy.2 fun y hy=>by
  obtain⟨u,rfl,hr⟩:=h.cone y hy;rw[cJ];exact (VO hok hk u).2 hr
 have h4:(fZ x c (k+1) k (List.replicate (A0 x) false)).1=false:=by
  cases he:(fZ x c (k+1) k (List.replicate (A0 x) false)).1 with
  | false=>rfl
  | true=>exact absurd ((WA (cut:=c) (Eb hok) hk).1 he) h.noleak
 unfold ID;rw[A8 h.len,qB h.asc,h3,h4];rfl
theorem oM {x:AK} {i:Nat} {c:List Int} (hok:Al x=true) (hk:Aa x+i<A0 x) (h:Ln x (Aa x+i) c) (hn:((Aa x+i:Nat):Int)∉c):LI x c i=true:=by
 unfold LI;rw[lQ hok hk h,show Li c ((Aa x+i:Nat):Int)=false from BH hn];rfl
theorem U4 {F:Nat} {ka kb:Nat→Nat} {a c:List Int} (hs:∀ z,z∈a→z∈c) {v u:Nat} (h:NV F ka kb c v u):NV F ka kb a v u:=by
 have ho:∀ w,O9 c w→O9 a w:=fun w h=>⟨h.1,fun m=>h.2 (hs _ m)⟩
 induction h with
 | refl h=>exact .refl (ho _ h)
 | a h1 h2 r ih=>exact .a (ho _ h1) h2 ih
 | b h1 h2 r ih=>exact .b (ho _ h1) h2 ih
theorem QD {x:AK} {k:Nat} {a b c:List Int} (hF:Aa x≤k) (ha:Ln x (CL x k) a) (hb:Ln x (CW x k) b) (h:DL a b=some c):Ln x k c∧∀ y∈c,∃ u:Nat,y=(u:Int)∧(L4 (Aa x) (CL x) (CW x) (CL x k) u∨L4 (Aa x) (CL x) (CW x) (CW x k) u):=by
 unfold DL at h;split at h
 · rename_i hl;simp only[Option.some.injEq] at h;subst h;have hm:=E5 _ a b (Nat.le_refl _)
   have hc:∀ y∈Ce a b,∃ u:Nat,y=(u:Int)∧(L4 (Aa x) (CL x) (CW x) (CL x k) u∨L4 (Aa x) (CL x) (CW x) (CW x k) u):=fun y hy=>by
    rcases (hm y).1 hy with h|h
    · obtain⟨u,e,r⟩:=ha.cone y h;exact⟨u,e,.inl r⟩
    · obtain⟨u,e,r⟩:=hb.cone y h;exact⟨u,e,.inr r⟩
   refine⟨⟨H5 _ a b (Nat.le_refl _) ha.asc hb.asc,hl,fun y hy=>?_,?_⟩,hc⟩
   · obtain⟨u,e,r⟩:=hc y hy;rcases r with r|r
     · exact⟨u,e,.a hF r⟩
     · exact⟨u,e,.b hF r⟩
   · rintro⟨u,ho,hu⟩
     cases ho with
     | refl _=>omega
     | a _ _ r=>exact ha.noleak ⟨u,U4 (fun z hz=>(hm z).2 (.inl hz)) r,hu⟩
     | b _ _ r=>exact hb.noleak ⟨u,U4 (fun z hz=>(hm z).2 (.inr hz)) r,hu⟩
 · cases h
theorem V4 {x:AK} {k:Nat}:Ln x k [(k:Int)]:=by
 refine⟨by simp[MT],by simp,fun y hy=>⟨k,by simpa using hy,.refl _⟩,?_⟩;rintro⟨u,ho,hu⟩;exact ho.opn.2 (by simp)
theorem aY {x:AK}:Ln x 0 []:=by
 refine⟨by simp[MT],by simp,by simp,?_⟩;rintro⟨u,ho,hu⟩;exact ho.opn.1 rfl
theorem ZT {P:List Int→Prop} {a b:EU} (h:∀ x∈a,∀ y∈b,∀ c,DL x y=some c→P c):∀ z∈HT a b,P z:=fun z hz=>by
 have:=(IH (P:=P) (b:=b) a (l:=[]) ⟨List.Pairwise.nil,by simp⟩ h).1;exact this.all z (Mb.1 (List.mem_of_mem_take hz)).1
theorem Zr {F:Nat} {ka kb:Nat→Nat} {k q:Nat} (hq:q≤k):((HH F ka kb k)[q]?).getD []=((HH F ka kb q)[q]?).getD []:=by rw[Ta hq]
theorem lH {F:Nat} {ka kb:Nat→Nat} {k:Nat}:(HH F ka kb (k+1))[k+1]? = some (Qo F ka kb (HH F ka kb k) (k+1)):=by
 show (HH F ka kb k++[Qo F ka kb (HH F ka kb k) (k+1)])[k+1]? = _;rw[ER (by rw[EX];exact Nat.le_refl _),EX,Nat.sub_self];rfl
def EH (x:AK) (k:Nat):EU:=((LV x k)[k]?).getD []
theorem PQ {x:AK} {k:Nat}:EH x (k+1)=(if Aa x≤k+1 then HT (((LV x k)[CL x (k+1)]?).getD []) (((LV x k)[CW x (k+1)]?).getD []) else [])++[[((k+1:Nat):Int)]]:=by
 unfold EH;rw[lH];rfl
theorem Tn {x:AK} (hok:Al x=true) {k:Nat} (hF:Aa x≤k) (hk:k<A0 x):EH x k=HT (EH x (CL x k)) (EH x (CW x k))++[[(k:Int)]]:=by
 have hf:0<Aa x:=by unfold Aa;omega
 obtain⟨j,rfl⟩:∃ j,k=j+1:=⟨k - 1,by omega⟩;obtain⟨k1,k2⟩:=Eb hok _ hF hk;have ea:((LV x j)[CL x (j+1)]?).getD []=EH x (CL x (j+1)):=Zr (by omega);have eb:((LV x j)[CW x (j+1)]?).getD []=EH x (CW x (j+1)):=Zr (by omega);rw[PQ,if_pos hF,ea,eb]
theorem eA {x:AK} {k:Nat} (hF:k<Aa x):EH x k=if k=0 then [[]] else [[(k:Int)]]:=by
 cases k with
 | zero=>rfl
 | succ j=>rw[PQ,if_neg (by omega)];rfl
theorem I9 {x:AK} (hok:Al x=true):∀ k,k<A0 x→(∀ c∈EH x k,Ln x k c)∧∃ c∈EH x k,c.length≤1:=by
 intro k
 induction k using Nat.strongRecOn with
 | _ k ih =>
   intro hk;by_cases hF:Aa x≤k
   · obtain⟨k1,k2⟩:=Eb hok _ hF hk;rw[Tn hok hF hk];refine⟨fun c hc=>?_,[(k:Int)],by simp,by simp⟩;rcases CO.1 hc with hc|hc
     · exact ZT (P:=Ln x k) (fun a ha b hb c h=>(QD hF ((ih _ k1 (by omega)).1 a ha) ((ih _ k2 (by omega)).1 b hb) h).1) c hc
     · rw[HE.1 hc];exact V4
   · rw[eA (by omega)];split
     · rename_i h0;subst h0;exact⟨fun c hc=>by rw[HE.1 hc];exact aY,[],by simp,by simp⟩
     · exact⟨fun c hc=>by rw[HE.1 hc];exact V4,[(k:Int)],by simp,by simp⟩
theorem oR {l:EU} {c:List Int}:GM l c≠[]:=by
 cases l with
 | nil=>simp[GM]
 | cons u l=>unfold GM;split<;>try split
             all_goals simp
theorem Zd {l:EU} {o:Option (List Int)} (h:l≠[]∨o.isSome=true):R4 l o≠[]:=by
 cases o with
 | none=>rcases h with h|h;exact h;cases h
 | some c=>exact oR
theorem US {x:List Int}:∀ (b:EU) {l:EU},(l≠[]∨∃ y∈b,(DL x y).isSome=true)→LP x b l≠[]
 | [],l,h=>by
   rcases h with h|⟨y,hy,_⟩
   · exact h
   · cases hy
 | y::b,l,h=>by
   show LP x b (R4 l (DL x y))≠[];refine US b ?_;rcases h with h|⟨z,hz,hs⟩
   · exact .inl (Zd (.inl h))
   · rcases List.mem_cons.1 hz with rfl|hz
     · exact .inl (Zd (.inr hs))
     · exact .inr ⟨z,hz,hs⟩
theorem Zm {b:EU}:∀ (a:EU) {l:EU},(l≠[]∨∃ x∈a,∃ y∈b,(DL x y).isSome=true)→a.foldl (fun l x=>LP x b l) l≠[]
 | [],l,h=>by
   rcases h with h|⟨y,hy,_⟩
   · exact h
   · cases hy
 | x::a,l,h=>by
   rw[List.foldl_cons];refine Zm a ?_;rcases h with h|⟨z,hz,y,hy,hs⟩
   · exact .inl (US b (.inl h))
   · rcases List.mem_cons.1 hz with rfl|hz
     · exact .inl (US b (.inr ⟨y,hy,hs⟩))
     · exact .inr ⟨z,hz,y,hy,hs⟩
theorem oD {a b:EU} {u v:List Int} (hu:u∈a) (hv:v∈b) (h1:u.length≤1) (h2:v.length≤1):HT a b≠[]:=by
 have hm:(DL u v).isSome=true:=by
  unfold DL;rw[if_pos (by have:=(GL _ u v (Nat.le_refl _)).1;omega)];rfl
 have hc:To a b≠[]:=Zm a (.inr ⟨u,hu,v,hv,hm⟩);have hs:Ou (To a b):=(IH (P:=fun _=>True) (b:=b) a (l:=[]) ⟨List.Pairwise.nil,by simp⟩ (fun _ _ _ _ _ _=>trivial)).1.sort;unfold HT
 cases hcc:To a b with
 | nil=>exact absurd hcc hc
 | cons w l =>
   rw[hcc] at hs;have hk:Hq (w::l) w=true:=by rw[Tb (i:=0) hs rfl];rfl
   rw[List.filter_cons,if_pos hk];simp
theorem aW {x:AK} (hok:Al x=true) {i:Nat} (hk:Aa x+i<A0 x):2≤(EH x (Aa x+i)).length∧(EH x (Aa x+i)).length≤8∧∀ (q:Nat) (c:List Int),(EH x (Aa x+i))[q]? = some c→q+1<(EH x (Aa x+i)).length→LI x c i=true:=by
 obtain⟨k1,k2⟩:=Eb hok _ (Nat.le_add_right _ i) hk;obtain⟨ga,u,hu,hu1⟩:=I9 hok _ (show CL x (Aa x+i)<A0 x by omega);obtain⟨gb,v,hv,hv1⟩:=I9 hok _ (show CW x (Aa x+i)<A0 x by omega);have hne:=oD hu hv hu1 hv1;have hpos:=List.length_pos_iff.2 hne;have hj:=NH (a:=EH x (CL x (Aa x+i))) (b:=EH x (CW x (Aa x+i)));rw[Tn hok (Nat.le_add_right _ i) hk];simp only[EM,List.length_singleton];refine⟨by omega,by omega,fun q c hq hlt=>?_⟩;rw[D4 (by omega)] at hq;have hc:=D1 hq;obtain⟨h1,h2⟩:=ZT (P:=fun c=>Ln x (Aa x+i) c∧_) (fun a ha b hb c h=>QD (Nat.le_add_right _ i) (ga a ha) (gb b hb) h) c hc;refine oM hok hk h1 fun hm=>?_;obtain⟨w,hw,hr⟩:=h2 _ hm
 have hle:w<Aa x+i:=by
  rcases hr with hr|hr
  · have:=L4.le (Eb hok) hr (by omega);omega
  · have:=L4.le (Eb hok) hr (by omega);omega
 omega
end
theorem oQ {lv:List Int} {lit:Int} {xs:List Int} (h:lit∉xs):LM lv lit xs=if (Gz lv lit xs xs.length).2=true then (Gz lv lit xs xs.length).1 else (Gz lv lit xs xs.length).1++[lit]:=if_neg h
theorem OA (xs lv:List Int) (lit:Int) (hx:xs.length≤1048576) (hl:lv.length≤1048576) (h1:∀ y∈xs,0≤y∧y / 2<lv.length) (h2:0≤lit∧lit / 2<lv.length):BA Tryz.prog 74 [ints xs,ints lv,.d (.int .i64 lit)] (ints (LM lv lit xs)):=by
 have t1:=Cd (lv:=lv) (k:=lit / 2) (by omega);have v1:IntKind.i64.wrap (lit.tdiv 2)=lit / 2:=Nk h2.1 (by omega);have v2:¬ lit / 2<0:=by omega
 obtain⟨R,hR⟩:∃ R,LM lv lit xs=R:=⟨_,rfl⟩;rw[hR];refine A6 (by kernel_rfl) Tryz.func74 rfl rfl rfl ?_;simp;refine AJ [true,true,true,false,false,false,false,true,true,true] (fun i:Nat=>i≤xs.length∧lit∉xs.take i) (fun i:Nat=>[(7,.ref 0),(8,.d (.bool (Gz lv lit xs i).2)),(9,.d (.int .i64 i))]) (fun i:Nat=>fun _=>[.arr 3 true ((Gz lv lit xs i).1.map (e1 AC))]) (fun i:Nat=>xs.length - i) 0 ?_ ?_ ?_
 · exact⟨Nat.zero_le _,by simp⟩
 · exact⟨[0],by simp[Gz]⟩
 rintro I S μ hI hS hμ i ⟨hi,hni⟩;have hpl:=QJ (lv:=lv) (lit:=lit) (xs:=xs) i;by_cases hlt:i<xs.length
 · obtain⟨y,hy⟩:∃ y,xs[i]? = some y:=⟨_,A1 hlt⟩;have hya:A3 xs i=y:=by unfold A3;rw[Int.toNat_natCast,hy];rfl
   have hym:=D1 hy;have hyr:=h1 y hym;have t2:=Cd (lv:=lv) (k:=y / 2) (by omega);have v3:IntKind.i64.wrap (y.tdiv 2)=y / 2:=Nk hyr.1 (by omega);have v4:¬ y / 2<0:=by omega
   have w1:IntKind.i64.wrap ((i:Int)+1)=(i:Int)+1:=Ad (by omega) (by omega)
   have hst:Gz lv lit xs (i+1)=if (Gz lv lit xs i).2=false∧jQ lv lit y=true then ((Gz lv lit xs i).1++[lit]++[y],true) else ((Gz lv lit xs i).1++[y],(Gz lv lit xs i).2):=by
    rw[←hya];rfl
   have hcd:jQ lv lit y=(decide (A3 lv (lit / 2)<A3 lv (y / 2))||(decide (A3 lv (lit / 2)=A3 lv (y / 2))&&decide (lit<y))):=rfl;by_cases he:y=lit
   · have hRx:R=xs:=by rw[←hR];exact if_pos (he▸hym)
     subst hRx;subst he;simp[A8 hlt,hy];refine Ak As rfl (by simp) rfl (by simp) (by simp) (by first | (simp;done)|(simp;omega)) (by simp[AR,AL]) ?_;simp
   · have heq:(y==lit)=false:=by simpa using he
     have hnext:lit∉xs.take (i+1):=by
      rw[Bb hy];intro hm;rcases CO.1 hm with hm|hm
      · exact hni hm
      · exact he (HE.1 hm).symm
     obtain⟨P2,hP2⟩:∃ P2,Gz lv lit xs (i+1)=P2:=⟨_,rfl⟩;rw[hP2] at hst;generalize Gz lv lit xs i=P at *;obtain⟨o,dn⟩:=P;simp only at hst hpl;have hol:o.length≤1048577:=by split at hpl<;>omega
     generalize A3 lv (lit / 2)=b at *;generalize A3 lv (y / 2)=a at *
     cases dn with
     | true =>
       rw[if_neg (by simp)] at hst;simp[A8 hlt,hy,heq,v1,v2,v3,v4,t1,t2];refine Ak As rfl (by simp) rfl (by simp) (by simp) (by first | (simp;done)|(simp;omega)) (by simp[AR,AL]) ?_;simp[w1];exact Ae hI hS hμ (i+1) ⟨by omega,hnext⟩ (by omega) ⟨[2],by simp[hP2,hst]⟩
     | false =>
       by_cases hc1:b<a
       · rw[if_pos ⟨rfl,by rw[hcd,A8 hc1];rfl⟩] at hst;simp[A8 hlt,hy,heq,v1,v2,v3,v4,t1,t2,A8 hc1,hc1];refine Ak As rfl (by simp) rfl (by simp) (by simp) (by first | (simp;done)|(simp;omega)) (by simp[AR,AL]) ?_;simp[A8 hlt,hy];refine Ak As rfl (by simp) rfl (by simp) (by simp) (by first | (simp;done)|(simp;omega)) (by simp[AR,AL]) ?_;simp[w1];exact Ae hI hS hμ (i+1) ⟨by omega,hnext⟩ (by omega) ⟨[4],by simp[hP2,hst]⟩
       by_cases hc2:b=a
       · subst hc2;by_cases hc3:lit<y
         · rw[if_pos ⟨rfl,by rw[hcd];simp[hc3]⟩] at hst;simp[A8 hlt,hy,heq,v1,v2,v3,v4,t1,t2,A8 hc3,hc3];refine Ak As rfl (by simp) rfl (by simp) (by simp) (by first | (simp;done)|(simp;omega)) (by simp[AR,AL]) ?_;simp[A8 hlt,hy];refine Ak As rfl (by simp) rfl (by simp) (by simp) (by first | (simp;done)|(simp;omega)) (by simp[AR,AL]) ?_;simp[w1];exact Ae hI hS hμ (i+1) ⟨by omega,hnext⟩ (by omega) ⟨[4],by simp[hP2,hst]⟩
         · rw[if_neg (by rw[hcd];simp;omega)] at hst;simp[A8 hlt,hy,heq,v1,v2,v3,v4,t1,t2,BH hc3,hc3];refine Ak As rfl (by simp) rfl (by simp) (by simp) (by first | (simp;done)|(simp;omega)) (by simp[AR,AL]) ?_;simp[w1];exact Ae hI hS hμ (i+1) ⟨by omega,hnext⟩ (by omega) ⟨[2],by simp[hP2,hst]⟩
       · have hbe:(b==a)=false:=by simpa using hc2
         rw[if_neg (by rw[hcd];simp;omega)] at hst;simp[A8 hlt,hy,heq,v1,v2,v3,v4,t1,t2,BH hc1,hc1,hbe];refine Ak As rfl (by simp) rfl (by simp) (by simp) (by first | (simp;done)|(simp;omega)) (by simp[AR,AL]) ?_;simp[w1];exact Ae hI hS hμ (i+1) ⟨by omega,hnext⟩ (by omega) ⟨[2],by simp[hP2,hst]⟩
 obtain rfl:i=xs.length:=by omega
 rw[List.take_length] at hni;rw[oQ hni] at hR;generalize Gz lv lit xs xs.length=P at *;obtain⟨o,dn⟩:=P;simp only at hR hpl;have hol:o.length≤1048577:=by split at hpl<;>omega
 cases dn with
 | true =>
   rw[if_pos rfl] at hR;simp[hlt,BH hlt,hR]
 | false =>
   rw[if_neg (by simp)] at hR;have hRm:R.map (e1 AC)=o.map (e1 AC)++[[.int .i64 lit]]:=by rw[←hR,Gp];rfl
   simp[hlt,BH hlt];refine Ak As rfl (by simp) rfl (by simp) (by simp) (by first | (simp;done)|(simp;omega)) (by simp[AR,AL]) ?_;simp[hRm]
theorem X3 (x:AK) (v:Nat) (hx:CB 1048576 x) (hg:Kg x) (hok:Al x=true) (hv:v<A0 x) (hl:(EH x v).length≤8) (h4:∀ c∈EH x v,c.length≤4):CN Tryz.prog 77 [TK x,.d (.int .i64 v)] [] (.d (Zx (EH x v))) []:=by
 have kO:=Cn x hx hg;rw[hok] at kO;obtain⟨hF,hgl,hNi,hno⟩:=A9 hok;have kN:=Bv x;rw[hno] at kN;have kA:=Xl x v hx hok hv;obtain⟨l,hl1⟩:=Ud (x:=x) (Nat.le_refl v);have hE:EH x v=l:=by unfold EH;rw[hl1];rfl
 rw[hE] at hl h4 ⊢;generalize LV x v=al at *;have hL1:(eP l).length=1:=rfl;have hd0:¬ (v:Int)<0:=by omega
 have hdN:¬ (A0 x:Int)≤v:=by omega
 have hdN2:¬ A0 x≤v:=by omega
 refine BD (by kernel_rfl) Tryz.func77 rfl rfl rfl (by simp[Bl,Later]) (by simp[BO,Ah.live]) ?_;simp;refine Ab (kO) ?_;simp;refine Ab (kN) ?_;simp[hdN,hdN2];refine Ac (kA) [] [] (by simp) ?_;simp;refine AJ [false,true,false,false,false,true,true,true] (fun i:Nat=>i≤l.length) (fun i:Nat=>[(5,.ref 1),(6,.d (.sl 32 (al.map eP))),(7,.d (.int .i64 i))]) (fun i:Nat=>fun sl=>[E2 x,.arr 26 true ((l.take i).map Az)]) (fun i:Nat=>l.length - i) 0 ?_ ?_ ?_
 · simp
 · exact⟨[0,1],by simp[E2]⟩
 rintro I S μ hI hS hμ i hi;by_cases hlt:i<l.length
 · obtain⟨c,hc1⟩:∃ c,l[i]? = some c:=⟨_,A1 hlt⟩;have hd:=A8 hlt;have hc4:=h4 c (D1 hc1);have hLc:(Az c).length=1:=rfl;have hnx:(l.take (i+1)).map Az=(l.take i).map Az++[Az c]:=by rw[Bb hc1,Gp];rfl
   have hll:((l.take i).map Az).length=i:=by simp;omega
   have w1:IntKind.i64.wrap ((i:Int)+1)=(i:Int)+1:=Ad (by omega) (by omega);generalize (l.take i).map Az=ms at *;simp[hl1,hL1,hd,eP,e1,Dt,hc1,hLc,Az];refine Ak As rfl (by simp) rfl (by simp) (by simp) (by first | (simp;done)|(simp;omega)) (by simp[AR,AL]) ?_;simp
   first | refine Bt (q:=1) AM (by exact rfl) (by simp) (by exact rfl) (by exact rfl) (by simp) (by simp) (by first | (simp;done)|(simp;omega)) ?_|refine Bu AM (by exact rfl) (by simp) (by exact rfl) (by simp) (by first | (simp;done)|(simp;omega)) ?_
   simp[w1];exact Ae hI hS hμ (i+1) (by omega) (by omega) ⟨[0,5],by simp[hnx,Az,e1,Dt,AC,E2]⟩
 obtain rfl:i=l.length:=by omega
 rw[List.take_length];simp[hl1,hL1,hlt,BH hlt,eP,e1,Dt];exact⟨[],by simp⟩
end Go.Proofs.YtnjedabjbeipeaaGreat
