/-
  Cuts and mappings of a graph, by abstract walks: both sides.
  Conditions: those typed in each theorem.
-/
import Derived.Test.YtnjedabjbeipeaaNj
import Derived.Test.YtnjedabjbeipeaaGa
import Derived.Test.YtnjedabjbeipeaaFa
namespace Go.Proofs.Ytnjedabjbeipeaa
open Go.RowKit Go.ChangeShapes Go.WideShapes
set_option linter.unusedSimpArgs false
set_option linter.unusedVariables false
set_option maxRecDepth 100000
set_option maxHeartbeats 10000000
section
attribute [local simp] Dp EZ
def yE (ms cut:List Int):Bool:=cut.all fun y=>Ob ms y
def XC (x:AB) (v:Nat) (cut:List Int):Bool:=decide (cut.length≤4)&&QU cut&&yE (DM (ER x v)) cut&&!(qF x cut (v+1) v (List.replicate (AR x) false)).1
theorem Bz {x:AB} (hok:Aj x=true):(Aa x:Int)=1+x.1+x.2.1.length∧AR x≤400∧(1+x.1+(x.2.1.length:Int)+(x.2.2.1.length:Int))=AR x∧CW x=AR x:=by
 obtain⟨⟨n1,n2,n3,n4,n5,n6⟩,-,-,-⟩:=Ax hok;have hN:=Bn x;unfold Aa at hN;refine⟨by unfold Aa;omega,by omega,by omega,by omega⟩
def Qx (x:AB) (c:List Int) (i:Nat):Bool:=!Ob c ((Aa x+i:Nat):Int)&&XC x (Aa x+i) c
end
section
attribute [local simp] Dp EZ
theorem cV {x:AB} (hok:Aj x=true) {v:Nat} (hv:v<AR x):∀ u,(Be (ER x v) u=true↔Mt (Aa x) (B2 x) (B7 x) v u):=fun u=>by
 obtain⟨_,h⟩:=HF (EM hok) (v+1) v (List.replicate (AR x) false) (by omega) hv (by simp) (fun u _ h=>by rw[Ie] at h;cases h);have:=h u;rw[Ie] at this;show Be (Ip (Aa x) (B2 x) (B7 x) (v+1) v (List.replicate (AR x) false)) u=true↔_;simpa using this
theorem lI {xs:List Int} (h:∀ k:Nat,k+1<xs.length→Av xs k<Av xs ((k:Int)+1)):QU xs=true :=
 zz8.2 fun j hj=>zz2 (h j (by have:=ACJ.1 hj;omega))
end
theorem YE {xs:List Int} (h:Jw xs) {i:Nat} {y z:Int} (h1:xs[i]? = some y) (h2:xs[i+1]? = some z):y<z:=by
 obtain⟨a,a'⟩:=zz1.1 h1;obtain⟨b,b'⟩:=zz1.1 h2;have:=List.pairwise_iff_getElem.1 h i (i+1) a b (by omega)
 rwa [a',b'] at this
theorem ZF {a b:List Int} {i:Nat} {x y:Int} (h1:a[i]? = some x) (h2:b[i]? = some y):Jt (a.drop i) (b.drop i)=if x=y then Jt (a.drop (i+1)) (b.drop (i+1)) else decide (x<y):=by
 obtain⟨p,p'⟩:=zz1.1 h1;obtain⟨q,q'⟩:=zz1.1 h2;rw[List.drop_eq_getElem_cons p,List.drop_eq_getElem_cons q,p',q'];rfl
theorem Vg {a b:List Int} (h:(BE a b).length≤4):CY a b=some (BE a b):=if_pos h
theorem Uq {a b:List Int} (h:¬ (BE a b).length≤4):CY a b=none:=if_neg h
section
attribute [local simp] Dp EZ
end
section
attribute [local simp] Dp EZ
def mx (a b:Int):Int:=if b > a then b else a
def Og (s:List Bool) (rs:List Int):Nat→List Bool
 | 0=>s
 | j+1=>(Og s rs j).set (Av rs j / 2).toNat true
theorem KH {s:List Bool} {rs:List Int}:∀ j,(Og s rs j).length=s.length
 | 0=>rfl
 | j+1=>by simp[Og,KH j]
end
section
attribute [local simp] Dp EZ
theorem D5 {x:AB} (hok:Aj x=true):∀ y∈At x,0≤y∧y<2*(AR x:Int):=(Ax hok).2.2.1
theorem PZ {x:AB} (hok:Aj x=true):(At x).length≤64:=by
 obtain⟨⟨n1,n2,n3,n4,n5,n6⟩,o1,-,-⟩:=Ax hok;have h1:=HS (x:=x) (k:=x.2.1.length) (M:=4) (fun s hs=>F5 (o1 s hs));rw[HN] at h1;omega
end
structure Ti (M:Nat) (es:Es):Prop where
 nd:(Of es).Nodup
 lt:∀ t∈Of es,t<M
 src:∀ p∈es,-1≤p.2∧p.2<M
theorem Ti.vis {M:Nat} {es:Es} (h:Ti M es) {t:Nat} {z:Int} (ht:t<M) (hz:-1≤z∧z<M):Ti M (oT z es t):=by
 unfold oT;split
 · exact h
 · rename_i hm;refine⟨?_,fun u hu=>?_,fun p hp=>?_⟩
   · simp only[Of,ACX,List.map_cons,List.map_nil] at hm ⊢
     exact List.nodup_append.2 ⟨h.nd,by simp,fun a ha b hb=>by
      simp only[zz9] at hb;subst hb
      exact fun e=>hm (e▸ha)⟩
   · simp only[Of,ACX,List.map_cons,List.map_nil,ACE,zz9] at hu;rcases hu with hu|rfl
     · exact h.lt u hu
     · exact ht
   · rcases ACE.1 hp with hp|hp
     · exact h.src p hp
     · rw[zz9.1 hp];exact hz
theorem Ti.all {M:Nat} {z:Int} (hz:-1≤z∧z<M):∀ {ts:List Nat} {es:Es},Ti M es→(∀ t∈ts,t<M)→Ti M (ts.foldl (oT z) es)
 | [],es,h,_=>h
 | t::ts,es,h,ht=>by
   rw[List.foldl_cons];exact Ti.all hz (h.vis (ht t (by simp)) hz) fun u hu=>ht u (by simp[hu])
theorem Ti.len {M:Nat} {es:Es} (h:Ti M es):es.length≤M:=by
 have:(Of es).length≤(List.range M).length:=h.nd.length_le_of_subset fun t ht=>ACJ.2 (h.lt t ht);simpa [Of] using this
def ABv (N:Nat) (ab:List Int):Prop:=∀ k,-1≤Hu ab k∧Hu ab k<N
structure ACZ (N:Nat) (s:StS):Prop where
 ul:s.1.length=N
 al:s.2.length=N
 ab:ABv N s.2
theorem ML:∀ {p q:EF} {c:List Int},(∀ u∈p,D1 u c=true)→Fd (p++q) c=p++Fd q c
 | [],q,c,_=>rfl
 | u::p,q,c,h=>by
   have e:Fd (u::p++q) c=if D1 u c=true then u::Fd (p++q) c else if u=c then u::(p++q) else c::u::(p++q):=rfl;rw[e,if_pos (h u (by simp)),ML fun v hv=>h v (by simp[hv])];rfl
abbrev DE (c:List Int):V:=.d (B3 3 (e1 Az) c)
abbrev YZ (l:EF):V:=.d (Y3 l)
theorem Ry {l:EF}:∀ c∈l.map Aq,c.length=1:=fun c hc=>by obtain⟨x,_,rfl⟩:=ACP.1 hc;rfl
theorem Ez {α β:Type} {f:β→α→β} {b:β} {xs:List α} {k:Nat} {x:α} (hx:xs[k]? = some x):(xs.take (k+1)).foldl f b=f ((xs.take k).foldl f b) x:=by
 rw[Bh hx,List.foldl_append];rfl
def MS (a b:EF) (i:Nat):EF:=(a.take i).foldl (fun l x=>Lp x b l) []
def LL (a b:EF) (i:Nat) (x:List Int) (j:Nat):EF:=Lp x (b.take j) (MS a b i)
theorem OI {m:Nat} {a b:EF} (ha:∀ x∈a,RowP m x) (hb:∀ y∈b,RowP m y) (i:Nat):N0 (RowP m) (MS a b i)∧(MS a b i).length≤a.length*b.length:=by
 obtain⟨h1,h2⟩:=Ig (P:=RowP m) (b:=b) (a.take i) (l:=[]) ⟨List.Pairwise.nil,by simp⟩ fun x hx y hy c hc=>HE (ha x (List.mem_of_mem_take hx)) (hb y hy) hc;refine⟨h1,?_⟩;have:(a.take i).length*b.length≤a.length*b.length:=Nat.mul_le_mul_right _ (by rw[ACL];omega);simp only[List.length_nil,Nat.zero_add] at h2;exact Nat.le_trans h2 this
theorem Xd {m:Nat} {a b:EF} (ha:∀ x∈a,RowP m x) (hb:∀ y∈b,RowP m y) (i:Nat) {x:List Int} (hx:RowP m x) (j:Nat):N0 (RowP m) (LL a b i x j)∧(LL a b i x j).length≤a.length*b.length+b.length:=by
 obtain⟨h1,h2⟩:=OI ha hb i;obtain⟨h3,h4⟩:=MX (P:=RowP m) (x:=x) (b.take j) h1 fun y hy c hc=>HE hx (hb y (List.mem_of_mem_take hy)) hc;refine⟨h3,?_⟩;have h5:(b.take j).length≤b.length:=by rw[ACL];omega
 unfold LL;omega
theorem ZL {a b:EF} {i j:Nat} {x y:List Int} (h:b[j]? = some y):LL a b i x (j+1)=V2 (LL a b i x j) (CY x y):=by
 unfold LL Lp;rw[Ez h]
theorem ZG {a b:EF} {i:Nat} {x:List Int} (h:a[i]? = some x):MS a b (i+1)=LL a b i x b.length:=by
 unfold MS LL;rw[Ez h,List.take_length];rfl
def MM (L:EF) (i:Nat):EF:=(L.take i).filter (FK L)
theorem ZP {L:EF} {i:Nat} {u:List Int} (h:L[i]? = some u):MM L (i+1)=if FK L u=true then MM L i++[u] else MM L i:=by
 unfold MM;rw[Bh h,List.filter_append]
 cases hk:FK L u<;>simp[hk]
def QV (L:EF) (u:List Int) (k:Nat):Bool:=(L.take k).all fun v=>!SE v u
theorem RY {L:EF} {u v:List Int} {k:Nat} (h:L[k]? = some v):QV L u (k+1)=(QV L u k&&!SE v u):=Fu (p:=fun v=>!SE v u) h
def YA (rs:EF):List D:=e1 Y3 rs
abbrev Ew (x:AB) (k:Nat):List EF:=GP (Aa x) (B2 x) (B7 x) k
theorem Tv {x:AB} {k i:Nat} (h:i≤k):∃ l,(Ew x k)[i]? = some l:=⟨_,zz0 (by rw[CP];omega)⟩
section
attribute [local simp] Dp EZ
structure Hj (x:AB) (k:Nat) (c:List Int):Prop where
 asc:Jw c
 len:c.length≤4
 cone:∀ y∈c,∃ u:Nat,y=(u:Int)∧Mt (Aa x) (B2 x) (B7 x) k u
 noleak:¬ eT (Aa x) (B2 x) (B7 x) c k
theorem jF {c:List Int} (h:Jw c):QU c=true:=lI fun k hk=>by
 have h1:c[k]? = some c[k]:=zz0 (by omega);have h2:c[k+1]? = some c[k+1]:=zz0 (by omega);have h3:=YE h h1 h2;rw[Eh h1,show ((k:Int)+1)=((k+1:Nat):Int) by omega,Eh h2];exact h3
theorem cO {x:AB} {k:Nat} {c:List Int} (hok:Aj x=true) (hk:k<AR x) (h:Hj x k c):XC x k c=true:=by
 have h3:yE (DM (ER x k)) c=true:=zz8.2 fun y hy=>by
  obtain⟨u,rfl,hr⟩:=h.cone y hy;rw[Rs];exact (cV hok hk u).2 hr
 have h4:(qF x c (k+1) k (List.replicate (AR x) false)).1=false:=by
  cases he:(qF x c (k+1) k (List.replicate (AR x) false)).1 with
  | false=>rfl
  | true=>exact absurd ((gD (cut:=c) (EM hok) hk).1 he) h.noleak
 unfold XC;rw[zz2 h.len,jF h.asc,h3,h4];rfl
theorem nQ {x:AB} {i:Nat} {c:List Int} (hok:Aj x=true) (hk:Aa x+i<AR x) (h:Hj x (Aa x+i) c) (hn:((Aa x+i:Nat):Int)∉c):Qx x c i=true:=by
 unfold Qx;rw[cO hok hk h,show Ob c ((Aa x+i:Nat):Int)=false from zz3 hn];rfl
theorem VP {F:Nat} {ka kb:Nat→Nat} {a c:List Int} (hs:∀ z,z∈a→z∈c) {v u:Nat} (h:Od F ka kb c v u):Od F ka kb a v u:=by
 have ho:∀ w,T5 c w→T5 a w:=fun w h=>⟨h.1,fun m=>h.2 (hs _ m)⟩
 induction h with
 | refl h=>exact .refl (ho _ h)
 | a h1 h2 r ih=>exact .a (ho _ h1) h2 ih
 | b h1 h2 r ih=>exact .b (ho _ h1) h2 ih
theorem Qu {x:AB} {k:Nat} {a b c:List Int} (hF:Aa x≤k) (ha:Hj x (B2 x k) a) (hb:Hj x (B7 x k) b) (h:CY a b=some c):Hj x k c∧∀ y∈c,∃ u:Nat,y=(u:Int)∧(Mt (Aa x) (B2 x) (B7 x) (B2 x k) u∨Mt (Aa x) (B2 x) (B7 x) (B7 x k) u):=by
 unfold CY at h;split at h
 · rename_i hl;simp only[Option.some.injEq] at h;subst h;have hm:=El _ a b (Nat.le_refl _)
   have hc:∀ y∈BE a b,∃ u:Nat,y=(u:Int)∧(Mt (Aa x) (B2 x) (B7 x) (B2 x k) u∨Mt (Aa x) (B2 x) (B7 x) (B7 x k) u):=fun y hy=>by
    rcases (hm y).1 hy with h|h
    · obtain⟨u,e,r⟩:=ha.cone y h;exact⟨u,e,.inl r⟩
    · obtain⟨u,e,r⟩:=hb.cone y h;exact⟨u,e,.inr r⟩
   refine⟨⟨Ho _ a b (Nat.le_refl _) ha.asc hb.asc,hl,fun y hy=>?_,?_⟩,hc⟩
   · obtain⟨u,e,r⟩:=hc y hy;rcases r with r|r
     · exact⟨u,e,.a hF r⟩
     · exact⟨u,e,.b hF r⟩
   · rintro⟨u,ho,hu⟩
     cases ho with
     | refl _=>omega
     | a _ _ r=>exact ha.noleak ⟨u,VP (fun z hz=>(hm z).2 (.inl hz)) r,hu⟩
     | b _ _ r=>exact hb.noleak ⟨u,VP (fun z hz=>(hm z).2 (.inr hz)) r,hu⟩
 · cases h
theorem V4 {x:AB} {k:Nat}:Hj x k [(k:Int)]:=by
 refine⟨by simp[Jw],by simp,fun y hy=>⟨k,by simpa using hy,.refl _⟩,?_⟩;rintro⟨u,ho,hu⟩;exact ho.opn.2 (by simp)
theorem aE {x:AB}:Hj x 0 []:=by
 refine⟨by simp[Jw],by simp,by simp,?_⟩;rintro⟨u,ho,hu⟩;exact ho.opn.1 rfl
theorem Y5 {P:List Int→Prop} {a b:EF} (h:∀ x∈a,∀ y∈b,∀ c,CY x y=some c→P c):∀ z∈Kc a b,P z:=fun z hz=>by
 have:=(Ig (P:=P) (b:=b) a (l:=[]) ⟨List.Pairwise.nil,by simp⟩ h).1;exact this.all z (ACQ.1 (List.mem_of_mem_take hz)).1
theorem X9 {F:Nat} {ka kb:Nat→Nat} {k q:Nat} (hq:q≤k):((GP F ka kb k)[q]?).getD []=((GP F ka kb q)[q]?).getD []:=by rw[Fh hq]
theorem iW {F:Nat} {ka kb:Nat→Nat} {k:Nat}:(GP F ka kb (k+1))[k+1]? = some (Oc F ka kb (GP F ka kb k) (k+1)):=by
 show (GP F ka kb k++[Oc F ka kb (GP F ka kb k) (k+1)])[k+1]? = _;rw[zz5 (by rw[CP];exact Nat.le_refl _),CP,Nat.sub_self];rfl
def Dz (x:AB) (k:Nat):EF:=((Ew x k)[k]?).getD []
theorem PM {x:AB} {k:Nat}:Dz x (k+1)=(if Aa x≤k+1 then Kc (((Ew x k)[B2 x (k+1)]?).getD []) (((Ew x k)[B7 x (k+1)]?).getD []) else [])++[[((k+1:Nat):Int)]]:=by
 unfold Dz;rw[iW];rfl
theorem Rr {x:AB} (hok:Aj x=true) {k:Nat} (hF:Aa x≤k) (hk:k<AR x):Dz x k=Kc (Dz x (B2 x k)) (Dz x (B7 x k))++[[(k:Int)]]:=by
 have hf:0<Aa x:=by unfold Aa;omega
 obtain⟨j,rfl⟩:∃ j,k=j+1:=⟨k - 1,by omega⟩;obtain⟨k1,k2⟩:=EM hok _ hF hk;have ea:((Ew x j)[B2 x (j+1)]?).getD []=Dz x (B2 x (j+1)):=X9 (by omega);have eb:((Ew x j)[B7 x (j+1)]?).getD []=Dz x (B7 x (j+1)):=X9 (by omega);rw[PM,if_pos hF,ea,eb]
theorem Zo {x:AB} {k:Nat} (hF:k<Aa x):Dz x k=if k=0 then [[]] else [[(k:Int)]]:=by
 cases k with
 | zero=>rfl
 | succ j=>rw[PM,if_neg (by omega)];rfl
theorem Hm {x:AB} (hok:Aj x=true):∀ k,k<AR x→(∀ c∈Dz x k,Hj x k c)∧∃ c∈Dz x k,c.length≤1:=by
 intro k
 induction k using Nat.strongRecOn with
 | _ k ih =>
   intro hk;by_cases hF:Aa x≤k
   · obtain⟨k1,k2⟩:=EM hok _ hF hk;rw[Rr hok hF hk];refine⟨fun c hc=>?_,[(k:Int)],by simp,by simp⟩;rcases ACE.1 hc with hc|hc
     · exact Y5 (P:=Hj x k) (fun a ha b hb c h=>(Qu hF ((ih _ k1 (by omega)).1 a ha) ((ih _ k2 (by omega)).1 b hb) h).1) c hc
     · rw[zz9.1 hc];exact V4
   · rw[Zo (by omega)];split
     · rename_i h0;subst h0;exact⟨fun c hc=>by rw[zz9.1 hc];exact aE,[],by simp,by simp⟩
     · exact⟨fun c hc=>by rw[zz9.1 hc];exact V4,[(k:Int)],by simp,by simp⟩
theorem lD {l:EF} {c:List Int}:Fd l c≠[]:=by
 cases l with
 | nil=>simp[Fd]
 | cons u l=>unfold Fd;split<;>try split
             all_goals simp
theorem Y8 {l:EF} {o:Option (List Int)} (h:l≠[]∨o.isSome=true):V2 l o≠[]:=by
 cases o with
 | none=>rcases h with h|h;exact h;cases h
 | some c=>exact lD
theorem Tl {x:List Int}:∀ (b:EF) {l:EF},(l≠[]∨∃ y∈b,(CY x y).isSome=true)→Lp x b l≠[]
 | [],l,h=>by
   rcases h with h|⟨y,hy,_⟩
   · exact h
   · cases hy
 | y::b,l,h=>by
   show Lp x b (V2 l (CY x y))≠[];refine Tl b ?_;rcases h with h|⟨z,hz,hs⟩
   · exact .inl (Y8 (.inl h))
   · rcases List.mem_cons.1 hz with rfl|hz
     · exact .inl (Y8 (.inr hs))
     · exact .inr ⟨z,hz,hs⟩
theorem Y9 {b:EF}:∀ (a:EF) {l:EF},(l≠[]∨∃ x∈a,∃ y∈b,(CY x y).isSome=true)→a.foldl (fun l x=>Lp x b l) l≠[]
 | [],l,h=>by
   rcases h with h|⟨y,hy,_⟩
   · exact h
   · cases hy
 | x::a,l,h=>by
   rw[List.foldl_cons];refine Y9 a ?_;rcases h with h|⟨z,hz,y,hy,hs⟩
   · exact .inl (Tl b (.inl h))
   · rcases List.mem_cons.1 hz with rfl|hz
     · exact .inl (Tl b (.inr ⟨y,hy,hs⟩))
     · exact .inr ⟨z,hz,y,hy,hs⟩
theorem mH {a b:EF} {u v:List Int} (hu:u∈a) (hv:v∈b) (h1:u.length≤1) (h2:v.length≤1):Kc a b≠[]:=by
 have hm:(CY u v).isSome=true:=by
  unfold CY;rw[if_pos (by have:=(Jb _ u v (Nat.le_refl _)).1;omega)];rfl
 have hc:Iu a b≠[]:=Y9 a (.inr ⟨u,hu,v,hv,hm⟩);have hs:R7 (Iu a b):=(Ig (P:=fun _=>True) (b:=b) a (l:=[]) ⟨List.Pairwise.nil,by simp⟩ (fun _ _ _ _ _ _=>trivial)).1.sort;unfold Kc
 cases hcc:Iu a b with
 | nil=>exact absurd hcc hc
 | cons w l =>
   rw[hcc] at hs;have hk:FK (w::l) w=true:=by rw[Z5 (i:=0) hs rfl];rfl
   rw[List.filter_cons,if_pos hk];simp
theorem RH {x:AB} (hok:Aj x=true) {i:Nat} (hk:Aa x+i<AR x):2≤(Dz x (Aa x+i)).length∧(Dz x (Aa x+i)).length≤8∧∀ (q:Nat) (c:List Int),(Dz x (Aa x+i))[q]? = some c→q+1<(Dz x (Aa x+i)).length→Qx x c i=true:=by
 obtain⟨k1,k2⟩:=EM hok _ (Nat.le_add_right _ i) hk;obtain⟨ga,u,hu,hu1⟩:=Hm hok _ (show B2 x (Aa x+i)<AR x by omega);obtain⟨gb,v,hv,hv1⟩:=Hm hok _ (show B7 x (Aa x+i)<AR x by omega);have hne:=mH hu hv hu1 hv1;have hpos:=List.length_pos_iff.2 hne;have hj:=RE (a:=Dz x (B2 x (Aa x+i))) (b:=Dz x (B7 x (Aa x+i)));rw[Rr hok (Nat.le_add_right _ i) hk];simp only[ACg,List.length_singleton];refine⟨by omega,by omega,fun q c hq hlt=>?_⟩;rw[zz4 (by omega)] at hq;have hc:=zz6 hq;obtain⟨h1,h2⟩:=Y5 (P:=fun c=>Hj x (Aa x+i) c∧_) (fun a ha b hb c h=>Qu (Nat.le_add_right _ i) (ga a ha) (gb b hb) h) c hc;refine nQ hok hk h1 fun hm=>?_;obtain⟨w,hw,hr⟩:=h2 _ hm
 have hle:w<Aa x+i:=by
  rcases hr with hr|hr
  · have:=Mt.le (EM hok) hr (by omega);omega
  · have:=Mt.le (EM hok) hr (by omega);omega
 omega
end
end Go.Proofs.Ytnjedabjbeipeaa
