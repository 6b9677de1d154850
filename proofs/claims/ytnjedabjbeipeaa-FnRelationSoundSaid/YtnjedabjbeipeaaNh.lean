/-
  What a node reaches in a graph whose edges lead down, by marks from above and by a search; paths that avoid a cut. Plain lemmas, about no function of the program.
  Conditions: those typed in each theorem.
-/
import Derived.Test.YtnjedabjbeipeaaBase
namespace Go.Proofs.Ytnjedabjbeipeaa
set_option linter.unusedVariables false
def getB (s:List Bool) (v:Nat):Bool:=(s[v]?).getD false
theorem getB_set {s:List Bool} {v u:Nat} (hv:v<s.length):getB (s.set v true) u=(decide (u=v)||getB s u):=by
 unfold getB
 by_cases h:u=v
 · subst h;rw[List.getElem?_set_self hv];simp
 · rw[List.getElem?_set_ne (fun e=>h e.symm)];simp[h]
theorem getB_rep {n u:Nat}:getB (List.replicate n false) u=false:=by
 unfold getB
 rw[List.getElem?_replicate]
 split<;>rfl
theorem getB_ext {s t:List Bool} (hl:s.length=t.length) (h:∀ u,getB s u=getB t u):s=t:=by
 apply List.ext_getElem hl
 intro i h1 h2
 have:=h i
 simpa [getB,List.getElem?_eq_getElem h1,List.getElem?_eq_getElem h2] using this
theorem getB_at {s:List Bool} {v:Nat} (hv:v<s.length):s[v]? = some (getB s v):=by
 unfold getB
 rw[List.getElem?_eq_getElem hv]
 rfl
section
variable (F:Nat) (ka kb:Nat→Nat)
inductive Rch:Nat→Nat→Prop
 | refl (v:Nat):Rch v v
 | a {v u:Nat} (h:F≤v) (r:Rch (ka v) u):Rch v u
 | b {v u:Nat} (h:F≤v) (r:Rch (kb v) u):Rch v u
def mcone:Nat→Nat→List Bool→List Bool
 | 0,_,s=>s
 | n+1,v,s=>if getB s v=true then s else if v<F then s.set v true else mcone n (kb v) (mcone n (ka v) (s.set v true))
variable (cut:List Int)
def esc:Nat→Nat→List Bool→Bool×List Bool
 | 0,_,s=>(false,s)
 | n+1,v,s=>if v=0∨getB s v=true∨(v:Int)∈cut then (false,s) else if v<F then (true,s.set v true) else
    if (esc n (ka v) (s.set v true)).1=true then (true,(esc n (ka v) (s.set v true)).2) else esc n (kb v) (esc n (ka v) (s.set v true)).2
def Opn (v:Nat):Prop:=v≠0∧(v:Int)∉cut
inductive Orc:Nat→Nat→Prop
 | refl {v:Nat} (h:Opn cut v):Orc v v
 | a {v u:Nat} (ho:Opn cut v) (h:F≤v) (r:Orc (ka v) u):Orc v u
 | b {v u:Nat} (ho:Opn cut v) (h:F≤v) (r:Orc (kb v) u):Orc v u
end
section
variable {F N:Nat} {ka kb:Nat→Nat}
theorem Rch.snoc_a {v u:Nat} (h:Rch F ka kb v u) (hu:F≤u):Rch F ka kb v (ka u):=by
 induction h with
 | refl v=>exact .a hu (.refl _)
 | a h r ih=>exact .a h (ih hu)
 | b h r ih=>exact .b h (ih hu)
theorem Rch.snoc_b {v u:Nat} (h:Rch F ka kb v u) (hu:F≤u):Rch F ka kb v (kb u):=by
 induction h with
 | refl v=>exact .b hu (.refl _)
 | a h r ih=>exact .a h (ih hu)
 | b h r ih=>exact .b h (ih hu)
theorem Rch.leaf {v u:Nat} (h:Rch F ka kb v u) (hv:v<F):u=v:=by
 cases h with
 | refl=>rfl
 | a h r=>omega
 | b h r=>omega
def Clo (F:Nat) (ka kb:Nat→Nat) (s:List Bool) (m:Nat):Prop:=∀ u,u<m→getB s u=true→F≤u→getB s (ka u)=true∧getB s (kb u)=true
theorem Rch.le (hk:∀ v,F≤v→v<N→ka v<v∧kb v<v) {v u:Nat} (h:Rch F ka kb v u) (hv:v<N):u≤v:=by
 induction h with
 | refl v=>exact Nat.le_refl _
 | a h r ih=>have:=(hk _ h hv).1;have:=ih (by omega);omega
 | b h r ih=>have:=(hk _ h hv).2;have:=ih (by omega);omega
theorem clo_rch (hk:∀ v,F≤v→v<N→ka v<v∧kb v<v) {s:List Bool} {m v u:Nat} (hc:Clo F ka kb s m) (hv:v<m) (hn:v<N) (hs:getB s v=true) (h:Rch F ka kb v u):getB s u=true:=by
 induction h with
 | refl v=>exact hs
 | a h r ih=>have:=(hk _ h hn).1;exact ih (by omega) (by omega) (hc _ hv hs h).1
 | b h r ih=>have:=(hk _ h hn).2;exact ih (by omega) (by omega) (hc _ hv hs h).2
theorem mcone_len:∀ (n v:Nat) (s:List Bool),(mcone F ka kb n v s).length=s.length
 | 0,_,_=>rfl
 | n+1,v,s=>by
   unfold mcone
   split
   · rfl
   · split
     · simp
     · rw[mcone_len n,mcone_len n];simp
theorem sweep_done {m0 s:List Bool} (h1:∀ u,getB s u=true→∃ r,getB m0 r=true∧Rch F ka kb r u) (h2:∀ u,getB m0 u=true→getB s u=true) (hlen:s.length=N)
 (hk:∀ v,F≤v→v<N→ka v<v∧kb v<v) (hc:Clo F ka kb s N):∀ u,(getB s u=true↔∃ r,getB m0 r=true∧Rch F ka kb r u):=fun u=>by
 refine⟨h1 u,fun ⟨r,hr,hru⟩=>?_⟩
 have hs:=h2 r hr
 have hlt:r<N:=by
  rw[←hlen]
  unfold getB at hs
  cases h:s[r]? with
  | none=>rw[h] at hs;cases hs
  | some b=>exact (List.getElem?_eq_some_iff.1 h).1
 exact clo_rch hk hc hlt hlt hs hru
variable {cut:List Int}
theorem Orc.snoc_a {v u:Nat} (h:Orc F ka kb cut v u) (hu:F≤u) (ho:Opn cut (ka u)):Orc F ka kb cut v (ka u):=by
 induction h with
 | refl h=>exact .a h hu (.refl ho)
 | a ho' h r ih=>exact .a ho' h (ih hu ho)
 | b ho' h r ih=>exact .b ho' h (ih hu ho)
theorem Orc.snoc_b {v u:Nat} (h:Orc F ka kb cut v u) (hu:F≤u) (ho:Opn cut (kb u)):Orc F ka kb cut v (kb u):=by
 induction h with
 | refl h=>exact .b h hu (.refl ho)
 | a ho' h r ih=>exact .a ho' h (ih hu ho)
 | b ho' h r ih=>exact .b ho' h (ih hu ho)
theorem esc_len:∀ (n v:Nat) (s:List Bool),(esc F ka kb cut n v s).2.length=s.length
 | 0,_,_=>rfl
 | n+1,v,s=>by
   unfold esc
   split
   · rfl
   · split
     · simp
     · split
       · rw[esc_len n];simp
       · rw[esc_len n,esc_len n];simp
end
end Go.Proofs.Ytnjedabjbeipeaa
