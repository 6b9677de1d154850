/-
  Bounds on the number of marks.
  Conditions: those typed in each theorem.
-/
import Derived.Test.YtklhofpjjbfckaaMo
import Derived.Test.YtklhofpjjbfckaaNl
import Derived.Test.YtklhofpjjbfckaaNf
namespace Go.Proofs.Ytklhofpjjbfckaa
set_option linter.unusedVariables false
theorem costs_le {α:Type} {f:α→Nat} {m:Nat}:∀ {xs:List α},(∀ x∈xs,f x≤m)→costs f xs≤xs.length*m
 | [],_=>by simp[costs]
 | x::xs,h=>by
   have h1:=h x (by simp)
   have h2:=costs_le (f:=f) (m:=m) (xs:=xs) (fun y hy=>h y (by simp[hy]))
   simp[costs,Nat.succ_mul]
   omega
theorem cGr_le {x:GrD} (h:fitGr 1048576 x):cGr x≤4398046511104:=by
 obtain⟨h1,h2,h3,h4⟩:=h
 have k1:=costs_le (f:=cSeq) (m:=1048578) (xs:=x.2.1) (fun s hs=>by have:=h2 s hs;simp[cSeq];omega)
 have k2:=costs2 x.2.2.1
 have k3:=Nat.mul_le_mul_right 1048578 h1
 unfold cGr
 omega
theorem cRows_le {x:List RowD} (h:fitRw 1048576 x):costs cRow x≤4398046511104:=by
 obtain⟨h1,h2⟩:=h
 have k1:=costs_le (f:=cRow) (m:=1048577) (xs:=x) (fun s hs=>by have:=h2 s hs;simp only[cRow];omega)
 have k3:=Nat.mul_le_mul_right 1048577 h1
 omega
end Go.Proofs.Ytklhofpjjbfckaa
