/-
  What accepted proofs say; what the search finds. Plain lemmas, about no function of the program.
  Conditions: those typed in each theorem.
-/
import Derived.Test.YtnjedabjbeipeaaRi
namespace Go.Proofs.Ytnjedabjbeipeaa
set_option linter.unusedVariables false
set_option maxRecDepth 100000
set_option maxHeartbeats 10000000
def FM (p q:List Int):Prop:=p.length=q.length∧∀ m,p.getD m 0≠0→q.getD m 0=p.getD m 0
def L8 (cls:List (List Int)) (q:List Int):Prop:=∀ c∈cls,B8 q c=(0,false)
theorem Pr (p:List Int):FM p p:=⟨rfl,fun _ _=>rfl⟩
theorem Ns {p q r:List Int} (h1:FM p q) (h2:FM q r):FM p r:=⟨h1.1.trans h2.1,fun m h=>by rw[h2.2 m (by rw[h1.2 m h];exact h),h1.2 m h]⟩
theorem Md {p q:List Int} {l:Int} (h:FM p q) (hl:Cu p.length l) (h0:Bq p l≠0):Bq q l=Bq p l:=by
 rcases C1 hl with ⟨m,hm,rfl⟩|⟨m,hm,rfl⟩
 · rw[FG] at h0 ⊢;rw[FG,h.2 m h0]
 · rw[FL] at h0 ⊢;rw[FL,h.2 m (by omega)]
theorem LU {p q:List Int} {l:Int} (h:FM p q) (hl:Cu p.length l) (hv:Bq q l=1):FM (Co p l) q:=by
 refine⟨by rw[CG];exact h.1,fun m' h0=>?_⟩
 have key:∀ (m:Nat) (x:Int),m<p.length→q.getD m 0=x→(p.set m x).getD m' 0≠0→q.getD m' 0=(p.set m x).getD m' 0:=by
  intro m x hm hq hne;rw[List.getD_eq_getElem?_getD (l:=p.set m x),List.getElem?_set] at hne ⊢;by_cases e:m=m'
  · subst e;rw[hq];simp[hm]
  · rw[if_neg e,←List.getD_eq_getElem?_getD] at hne ⊢;exact h.2 m' hne
 rcases C1 hl with ⟨m,hm,rfl⟩|⟨m,hm,rfl⟩
 · rw[FG] at hv;rw[Em] at h0 ⊢;exact key m 1 hm hv h0
 · rw[FL] at hv;rw[Da] at h0 ⊢;exact key m (-1) hm (by omega) h0
theorem cW {p:List Int} (ht:Cj p) {l:Int} (hl:Cu p.length l):Bq p l=0∨Bq p l=1∨Bq p l=-1:=by
 rcases C1 hl with ⟨m,hm,rfl⟩|⟨m,hm,rfl⟩
 · rw[FG];have:=TW ht m;omega
 · rw[FL];have:=TW ht m;omega
theorem J3 {p:List Int} (ht:Cj p):∀ (cl:List Int) (u0:Int),(∀ l∈cl,Cu p.length l) →
 ((Dm p cl u0).2=true→u0=0∧∀ l∈cl,Bq p l=-1)∧((Dm p cl u0).1≠0→(u0=0∨u0=(Dm p cl u0).1)∧∀ l∈cl,Bq p l=-1∨l=(Dm p cl u0).1)
 | [],u0,_=>by
   unfold Dm;refine⟨fun h=>⟨by simpa using h,by simp⟩,fun h=>⟨.inr rfl,by simp⟩⟩
 | l::ls,u0,hl=>by
   have hv:=cW ht (hl l (by simp));have hls:∀ x∈ls,Cu p.length x:=fun x hx=>hl x (by simp[hx]);have hl0:l≠0:=(hl l (by simp)).1;unfold Dm;by_cases e1:Bq p l=1
   · rw[if_pos e1];exact⟨fun h=>(by cases h),fun h=>absurd rfl h⟩
   rw[if_neg e1];by_cases e0:Bq p l=0
   · rw[if_pos e0];by_cases hu:u0≠0∧u0≠l
     · rw[if_pos hu];exact⟨fun h=>(by cases h),fun h=>absurd rfl h⟩
     · rw[if_neg hu];obtain⟨a,b⟩:=J3 ht ls l hls;refine⟨fun h=>absurd (a h).1 hl0,fun h=>?_⟩;obtain⟨b1,b2⟩:=b h;have e:l=(Dm p ls l).1:=b1.resolve_left hl0;refine⟨?_,fun x hx=>?_⟩
       · by_cases h0:u0=0
         · exact .inl h0
         · right;have:u0=l:=Classical.byContradiction fun h'=>hu ⟨h0,h'⟩;rw[this];exact e
       · rcases List.mem_cons.1 hx with rfl|hx
         · exact .inr e
         · exact b2 x hx
   · rw[if_neg e0];obtain⟨a,b⟩:=J3 ht ls u0 hls;have em:Bq p l=-1:=by omega
     refine⟨fun h=>⟨(a h).1,fun x hx=>?_⟩,fun h=>⟨(b h).1,fun x hx=>?_⟩⟩
     · rcases List.mem_cons.1 hx with rfl|hx
       · exact em
       · exact (a h).2 x hx
     · rcases List.mem_cons.1 hx with rfl|hx
       · exact .inl em
       · exact (b h).2 x hx
theorem F6 {q:List Int} {u:Int} (hu:u≠0):∀ (cl:List Int) (w0:Int),(w0=0∨w0=u)→(∀ l∈cl,Bq q l=-1∨(l=u∧Bq q l≠1))→Dm q cl w0≠(0,false)
 | [],w0,hw,_,h=>by
   unfold Dm at h;simp only[Prod.mk.injEq,beq_eq_false_iff_ne,ne_eq] at h;exact h.2 h.1
 | l::ls,w0,hw,hl,h=>by
   have h0:=hl l (by simp);have hls:∀ x∈ls,Bq q x=-1∨(x=u∧Bq q x≠1):=fun x hx=>hl x (by simp[hx]);unfold Dm at h;rw[if_neg (by rcases h0 with h|⟨_,h⟩<;>omega)] at h;by_cases e0:Bq q l=0
   · rw[if_pos e0] at h
     have e:l=u:=by
      rcases h0 with h'|⟨h',_⟩
      · omega
      · exact h'
     rw[if_neg (by rw[e];rcases hw with h'|h'<;>simp[h'])] at h;exact F6 hu ls l (.inr e) hls h
   · rw[if_neg e0] at h;exact F6 hu ls w0 hw hls h
theorem Xh {p q c:List Int} (h:FM p q) (ht:Cj p) (hl:∀ l∈c,Cu p.length l) (hf:B8 q c=(0,false)):(B8 p c).2=false∧((B8 p c).1≠0→Bq q (B8 p c).1=1):=by
 obtain⟨a,b⟩:=J3 ht c 0 hl;have neg:∀ l∈c,Bq p l=-1→Bq q l=-1:=fun l hm hv=>by rw[Md h (hl l hm) (by omega),hv]
 constructor
 · cases hc:(B8 p c).2 with
   | false=>rfl
   | true=>exact absurd hf (F6 (u:=1) (by omega) c 0 (.inl rfl) fun l hm=>.inl (neg l hm ((a hc).2 l hm)))
 · intro hu;apply Classical.byContradiction;intro hv;refine F6 (u:=(B8 p c).1) hu c 0 (.inl rfl) (fun l hm=>?_) hf;rcases (b hu).2 l hm with h'|h'
   · exact .inl (neg l hm h')
   · exact .inr ⟨h',by rw[h'];exact hv⟩
theorem J0 {q:List Int}:∀ (cls:List (List Int)) (p:List Int) (ch:Bool),FM p q→Cj p→BK p.length cls→L8 cls q→∃ p' ch',DA cls p ch=some (p',ch')∧FM p' q∧Cj p'
 | [],p,ch,h,ht,_,_=>⟨p,ch,rfl,h,ht⟩
 | c::cs,p,ch,h,ht,hc,hf=>by
   have hin:=hc c (by simp);obtain⟨h1,h2⟩:=Xh h ht hin (hf c (by simp));unfold DA;rw[if_neg (by rw[h1];simp)];by_cases h0:(B8 p c).1=0
   · rw[if_pos h0];exact J0 cs p ch h ht (fun d hd=>hc d (by simp[hd])) (fun d hd=>hf d (by simp[hd]))
   · rw[if_neg h0];exact J0 cs _ true (LU h (hin _ (I9 h0).1) (h2 h0)) (Dt ht _) (by rw[CG];exact fun d hd=>hc d (by simp[hd])) (fun d hd=>hf d (by simp[hd]))
theorem N5 {cls:List (List Int)} {q:List Int} (hf:L8 cls q) {p:List Int} (hc:BK p.length cls) (ht:Cj p) (h:FM p q):∃ p',En cls p=some p'∧FM p' q:=by
 generalize hn:CV p=n
 induction n using Nat.strongRecOn generalizing p with
 | _ n ih =>
   subst hn;obtain⟨p',ch',h1,h2,h3⟩:=J0 cls p false h ht hc hf;have hlen:p'.length=p.length:=h2.1.trans h.1.symm;rw[En,h1];simp only;by_cases hz:ch'=true∧CV p'<CV p
   · rw[if_pos hz];exact ih _ hz.2 (by rw[hlen];exact hc) h3 h2 rfl
   · rw[if_neg hz];exact⟨p',rfl,h2⟩
theorem TE {p:List Int} {u:Int} (hu:Cu p.length u) (h0:Bq p u=0):FM p (Co p u):=by
 refine⟨(CG _ _).symm,fun m' hne=>?_⟩
 have key:∀ (m:Nat) (x:Int),p.getD m 0=0→(p.set m x).getD m' 0=p.getD m' 0:=by
  intro m x hm;by_cases e:m=m'
  · subst e;exact absurd hm hne
  · rw[List.getD_eq_getElem?_getD,ACT e,←List.getD_eq_getElem?_getD]
 rcases C1 hu with ⟨m,hm,rfl⟩|⟨m,hm,rfl⟩
 · rw[FG] at h0;rw[Em];exact key m 1 h0
 · rw[FL] at h0;rw[Da];exact key m (-1) (by omega)
theorem La:∀ {cls:List (List Int)} {p p':List Int} {ch ch':Bool},BK p.length cls→DA cls p ch=some (p',ch')→FM p p'∧(ch'=false→p'=p∧L8 cls p)
 | [],p,p',ch,ch',_,h=>by
   simp only[DA,Option.some.injEq,Prod.mk.injEq] at h;obtain⟨rfl,rfl⟩:=h;exact⟨Pr _,fun _=>⟨rfl,by simp[L8]⟩⟩
 | c::cs,p,p',ch,ch',hc,h=>by
   have hin:=hc c (by simp);unfold DA at h;by_cases h1:(B8 p c).2=true
   · rw[if_pos h1] at h;cases h
   rw[if_neg h1] at h;by_cases h0:(B8 p c).1=0
   · rw[if_pos h0] at h;obtain⟨a,b⟩:=La (fun d hd=>hc d (by simp[hd])) h;refine⟨a,fun hf=>⟨(b hf).1,fun d hd=>?_⟩⟩;rcases List.mem_cons.1 hd with rfl|hd
     · exact Prod.ext h0 (by simpa using h1)
     · exact (b hf).2 d hd
   · rw[if_neg h0] at h;have hm:=I9 h0;obtain⟨a,b⟩:=La (by rw[CG];exact fun d hd=>hc d (by simp[hd])) h;refine⟨Ns (TE (hin _ hm.1) hm.2) a,fun hf=>?_⟩;exfalso
     have hkeep:∀ (cs:List (List Int)) (p p':List Int) (ch':Bool),DA cs p true=some (p',ch')→ch'=true:=by
      intro cs
      induction cs with
      | nil=>intro p p' ch' h;simp only[DA,Option.some.injEq,Prod.mk.injEq] at h;exact h.2.symm
      | cons c cs ih =>
        intro p p' ch' h;unfold DA at h;split at h
        · cases h
        · split at h
          · exact ih _ _ _ h
          · exact ih _ _ _ h
     rw[hkeep _ _ _ _ h] at hf
     cases hf
theorem Rx {cls:List (List Int)} {p q:List Int} (hc:BK p.length cls) (ht:Cj p) (h:En cls p=some q):L8 cls q∧FM p q:=by
 generalize hn:CV p=n
 induction n using Nat.strongRecOn generalizing p with
 | _ n ih =>
   subst hn;rw[K5 hc ht] at h
   cases hp:DA cls p false with
   | none=>rw[hp] at h;cases h
   | some r =>
     obtain⟨p',ch⟩:=r;rw[hp] at h;obtain⟨h1,h2,h3,h4,_⟩:=Fy hc ht hp;obtain⟨m1,m2⟩:=La hc hp
     cases ch with
     | false =>
       simp only[Option.some.injEq] at h;subst h;obtain⟨e,f⟩:=m2 rfl;rw[e];exact⟨f,Pr _⟩
     | true =>
       obtain⟨a,b⟩:=ih _ (h4 rfl rfl) (by rw[h1];exact hc) h2 h rfl;exact⟨a,Ns m1 b⟩
theorem P4:∀ {cl p d:List Int},(∀ l∈cl,Cu p.length l)→Hz cl p=some d→Cj p→(∀ l,Cu p.length l→Bq p l=1→Bq d l=1)∧∀ l∈cl,Bq d (-l)=1
 | [],p,d,_,h,_=>by
   simp only[Hz,Option.some.injEq] at h;subst h;exact⟨fun _ _ h=>h,by simp⟩
 | l::ls,p,d,hl,h,ht=>by
   unfold Hz at h;split at h
   · cases h
   rename_i hv;have hli:=hl l (by simp);have hln:Cu p.length (-l):=⟨by have:=hli.1;omega,by have:=hli.2;omega,by have:=hli.2;omega⟩;obtain⟨a,b⟩:=P4 (by rw[CG];exact fun x hx=>hl x (by simp[hx])) h (Dt ht _);rw[CG] at a
   have self:Bq (Co p (-l)) (-l)=1:=by
    rcases C1 hli with ⟨m,hm,rfl⟩|⟨m,hm,rfl⟩
    · rw[Da,FL,List.getD_eq_getElem?_getD,List.getElem?_set];simp[hm]
    · rw[Ku,Int.neg_neg,FG,List.getD_eq_getElem?_getD,List.getElem?_set];simp[hm]
   have keep:∀ x,Cu p.length x→Bq p x=1→Bq (Co p (-l)) x=1:=by
    intro x hx hx1;have hne:x≠l:=fun e=>hv (by rw[←e];exact hx1);by_cases hxn:x=-l
    · rw[hxn];exact self
    · have key:∀ (m:Nat) (y:Int) (m':Nat),m≠m'→(p.set m y).getD m' 0=p.getD m' 0:=fun m y m' e=>by
       rw[List.getD_eq_getElem?_getD,ACT e,←List.getD_eq_getElem?_getD]
      rcases C1 hli with ⟨m,hm,rfl⟩|⟨m,hm,rfl⟩<;>rcases C1 hx with ⟨m',hm',rfl⟩|⟨m',hm',rfl⟩
      · rw[Da,FG] at *;rw[key _ _ _ (by omega)];exact hx1
      · rw[Da];rw[FL] at hx1 ⊢;rw[key _ _ _ (by omega)];exact hx1
      · rw[Ku];rw[FG] at hx1 ⊢;rw[key _ _ _ (by omega)];exact hx1
      · rw[Ku];rw[FL] at hx1 ⊢;rw[key _ _ _ (by omega)];exact hx1
   refine⟨fun x hx hx1=>a x hx (keep x hx hx1),fun x hx=>?_⟩;rcases List.mem_cons.1 hx with rfl|hx
   · exact a _ hln self
   · exact b x hx
end Go.Proofs.Ytnjedabjbeipeaa
