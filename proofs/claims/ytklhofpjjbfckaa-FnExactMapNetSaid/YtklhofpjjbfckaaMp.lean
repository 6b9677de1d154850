/-
  From the laws' arguments to graphs and links.
  Conditions: those typed in each theorem.
-/
import Derived.Test.YtklhofpjjbfckaaNc
import Derived.Test.YtklhofpjjbfckaaNi
import Derived.Test.YtklhofpjjbfckaaMo
namespace Go.Proofs.Ytklhofpjjbfckaa
open Go.RowKit Go.ChangeShapes Go.WideShapes Go.ChangeAt
set_option linter.unusedVariables false
set_option linter.unusedSimpArgs false
theorem fitGr_of {w:World} {G:Nat→Prop} {s l:TypeId} {x:GrD} {v:Value} (h:XRd w G (.agg (enGr s l x)) v):fitGr 9223372036854775807 x:=by
 cases h with
 | agg h =>
   obtain⟨_,h1⟩:=h.cell (d:=eSl s enSeq x.2.1) (by simp[enGr,e4])
   obtain⟨_,h2⟩:=h.cell (d:=eSl l enAnd x.2.2.1) (by simp[enGr,e4])
   obtain⟨_,h3⟩:=h.cell (d:=eSl 3 (e1 eInt) x.2.2.2) (by simp[enGr,e4])
   refine⟨h1.fit,fun q hq=>?_,h2.fit,h3.fit⟩
   obtain⟨_,h4⟩:=h1.sub (enSeq q) (List.mem_map_of_mem hq) (eSl 3 (e1 eInt) q.2.2) (by simp[enSeq,e3])
   exact h4.fit
theorem OkD.sl_of {α:Type} {t:TypeId} {en:α→List D} {xs:List α} (h:OkD (eSl t en xs)):∀ x∈xs,∀ q∈en x,OkD q:=by
 intro x hx q hq
 cases h with
 | sl _ _ h=>exact h _ (List.mem_map_of_mem hx) q hq
theorem OkD.ints {xs:List Int} {t:TypeId} (h:OkD (eSl t (e1 eInt) xs)):∀ y∈xs,isI y:=fun y hy=>OkD.i64 (OkD.sl_of h y hy (eInt y) (by simp[e1]))
theorem okGr_of {s l:TypeId} {x:GrD} (h:∀ q∈enGr s l x,OkD q):okGr x:=by
 have h0:=h (eInt x.1) (by simp[enGr,e4])
 have h1:=OkD.sl_of (h (eSl s enSeq x.2.1) (by simp[enGr,e4]))
 have h2:=OkD.sl_of (h (eSl l enAnd x.2.2.1) (by simp[enGr,e4]))
 have h3:=OkD.ints (h (eSl 3 (e1 eInt) x.2.2.2) (by simp[enGr,e4]))
 exact⟨h3,fun a ha=>⟨OkD.i64 (h1 a ha (eInt a.1) (by simp[enSeq,e3])),OkD.i64 (h1 a ha (eInt a.2.1) (by simp[enSeq,e3])),OkD.ints (h1 a ha (eSl 3 (e1 eInt) a.2.2) (by simp[enSeq,e3]))⟩,
  fun a ha=>⟨OkD.i64 (h2 a ha (eInt a.1) (by simp[enAnd,e2])),OkD.i64 (h2 a ha (eInt a.2) (by simp[enAnd,e2]))⟩,OkD.i64 h0⟩
theorem fitGr_szI {x:GrD} {l:Int} (h:0≤szGrL x l) (hl:0≤l∧l≤1048576):fitGr 1048576 x:=by
 unfold szGrL at h
 split at h
 · omega
 rename_i h1
 split at h
 · omega
 rename_i h2
 obtain⟨a1,a2⟩:=szS_fit (fun x l=>szSeqL_le x l) (Int.not_lt.1 h1)
 have c1:=szL_fit h
 have d1:=szS_le szSeqL_le x.2.1 l (by omega)
 have c2:=szL_fit (Int.not_lt.1 h2)
 have c3:=szL_le x.2.2.1.length _ (Int.not_lt.1 h1)
 refine⟨by omega,fun s hs=>?_,by omega,by omega⟩
 obtain⟨q,q1,q2,q3⟩:=a2 s hs
 have:=szL_fit q3
 omega
theorem fitGr_sz {x:GrD} (h:0≤szGrL x 1048576):fitGr 1048576 x:=fitGr_szI h (by omega)
theorem opE_net:OpE Try.prog (enGr 155 161) 43 :=
 ope_4 Try.underlying43 (by kernel_rfl) rfl rfl rfl rfl (by kernel_rfl) (by kernel_rfl) (by kernel_rfl) (by kernel_rfl) (opd_int Try.underlying3)
  (opd_sl Try.underlying40 (by simp) (fun x=>by simp[enSeq,e3]) (ope_3 Try.underlying155 (by kernel_rfl) rfl rfl rfl (by kernel_rfl) (by kernel_rfl) (by kernel_rfl) (opd_int Try.underlying3) (opd_int Try.underlying3) (opd_sl Try.underlying26 (by simp) (fun x=>by simp[e1]) (ope_1 (opd_int Try.underlying3)))))
  (opd_sl Try.underlying41 (by simp) (fun x=>by simp[enAnd,e2]) (ope_2 Try.underlying161 (by kernel_rfl) rfl rfl (by kernel_rfl) (by kernel_rfl) (opd_int Try.underlying3) (opd_int Try.underlying3)))
  (opd_sl Try.underlying26 (by simp) (fun x=>by simp[e1]) (ope_1 (opd_int Try.underlying3)))
end Go.Proofs.Ytklhofpjjbfckaa
/-
  Bounds on the number of marks.
  Conditions: those typed in each theorem.
-/
namespace Go.Proofs.Ytklhofpjjbfckaa
set_option linter.unusedVariables false
theorem costs_le {α:Type} {f:α→Nat} {m:Nat}:∀ {xs:List α},(∀ x∈xs,f x≤m)→costs f xs≤xs.length*m
 | [],_=>by simp[costs]
 | x::xs,h=>by
   have h1:=h x (by simp)
   have h2:=costs_le (f:=f) (m:=m) (xs:=xs) (fun y hy=>h y (by simp[hy]))
   simp[costs,Nat.succ_mul]
   omega
theorem cGr_le {x:GrD} (h:fitGr 1048576 x):cGr x≤4398046511104:=by
 obtain⟨h1,h2,h3,h4⟩:=h
 have k1:=costs_le (f:=cSeq) (m:=1048578) (xs:=x.2.1) (fun s hs=>by have:=h2 s hs;simp[cSeq];omega)
 have k2:=costs2 x.2.2.1
 have k3:=Nat.mul_le_mul_right 1048578 h1
 unfold cGr
 omega
theorem cRows_le {x:List RowD} (h:fitRw 1048576 x):costs cRow x≤4398046511104:=by
 obtain⟨h1,h2⟩:=h
 have k1:=costs_le (f:=cRow) (m:=1048577) (xs:=x) (fun s hs=>by have:=h2 s hs;simp only[cRow];omega)
 have k3:=Nat.mul_le_mul_right 1048577 h1
 omega
end Go.Proofs.Ytklhofpjjbfckaa
