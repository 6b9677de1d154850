/-
  Small nets with many flip-flops, as they are drawn. Plain lemmas.
  Conditions: those typed in each theorem.
-/
import Derived.Test.YtnjedabjbeipeaaPa
namespace Go.Proofs.Ytnjedabjbeipeaa
open Go.RowKit Go.ChangeShapes Go.WideShapes
set_option linter.unusedVariables false
set_option linter.unusedSimpArgs false
def qzIn (c:Cur):Int:=1+belowV c 2
def qzC1 (c:Cur):Cur:=belowC (belowC (belowC c 2) 5) 11
def qzSq (c:Cur):Nat:=(belowV (belowC c 2) 5).toNat
def qzAn (c:Cur):Nat:=(belowV (belowC (belowC c 2) 5) 11).toNat
def qzF (c:Cur):Nat:=1+(qzIn c).toNat+qzSq c
def qzTop (c:Cur):Int:=2*((qzF c:Int)+qzAn c)
def qzPA (c:Cur):Cur×List AndD:=drA (qzF c) (qzC1 c) (qzAn c)
def qzPS (c:Cur):Cur×List SeqD:=drS (qzTop c) (qzPA c).1 (qzSq c)
def qzPO (c:Cur):Cur×List Int:=drO (qzTop c) (belowC (qzPS c).1 4) ((belowV (qzPS c).1 4).toNat+1)
def flsG (c:Cur):GrD:=(qzIn c,(qzPS c).2,(qzPA c).2,(qzPO c).2)
def flsC (c:Cur):Cur:=(qzPO c).1
theorem fls_nums (c:Cur):(1≤qzIn c∧qzIn c≤2)∧qzSq c≤4∧qzAn c≤10:=by
 have b1:=belowV_rng c (n:=2) (by omega)
 have b2:=belowV_rng (belowC c 2) (n:=5) (by omega)
 have b3:=belowV_rng (belowC (belowC c 2) 5) (n:=11) (by omega)
 unfold qzIn qzSq qzAn
 omega
theorem flsC_ok {c:Cur} (h:c.ok):(flsC c).ok:=drO_ok (belowC_ok (drS_ok (drA_ok (belowC_ok (belowC_ok (belowC_ok h))) _) _)) _
theorem flsG_ok {c:Cur}:netOkB (flsG c)=true:=by
 obtain⟨h1,h2,h3⟩:=fls_nums c
 have hF:qzF c=1+(qzIn c).toNat+qzSq c:=rfl
 have ht:qzTop c=2*((qzF c:Int)+qzAn c):=rfl
 have lS:(qzPS c).2.length=qzSq c:=drS_len _
 have lA:(qzPA c).2.length=qzAn c:=drA_len _
 have lO:(qzPO c).2.length=(belowV (qzPS c).1 4).toNat+1:=drO_len _
 have b4:=belowV_rng (qzPS c).1 (n:=4) (by omega)
 have hN:grN (flsG c)=qzF c+qzAn c:=by
  show 1+(qzIn c).toNat+(qzPS c).2.length+(qzPA c).2.length=_
  omega
 have hG:firstG (flsG c)=qzF c:=by
  show 1+(qzIn c).toNat+(qzPS c).2.length=_
  omega
 have hS:=drS_good (top:=qzTop c) (c:=(qzPA c).1) (by omega) (qzSq c)
 have hO:=drO_good (top:=qzTop c) (c:=belowC (qzPS c).1 4) (by omega) ((belowV (qzPS c).1 4).toNat+1)
 refine netOk_mk (by show 0≤qzIn c∧qzIn c≤20;omega) (by show (qzPS c).2.length≤12;omega) (by show (qzPA c).2.length≤300;omega) (by show (qzPO c).2.length≤16;omega) (fun s hs=>(hS s hs).1) (fun y hy=>?_) (fun s hs y hy=>?_) (andsFit_of fun k a ha=>?_)
 · have:=hO y hy;rw[hN];omega
 · have:=(hS s hs).2 y hy;rw[hN];omega
 · rw[hG,Nat.zero_add]
   exact drA_at (F:=qzF c) (c:=qzC1 c) (by omega) (qzAn c) k a ha
end Go.Proofs.Ytnjedabjbeipeaa
/-
  Small nets with many flip-flops, as they are drawn. Plain lemmas.
  Conditions: those typed in each theorem.
-/
namespace Go.Proofs.Ytnjedabjbeipeaa
open Go.RowKit Go.ChangeShapes Go.WideShapes
set_option linter.unusedVariables false
set_option linter.unusedSimpArgs false
def ayIn (c:Cur):Int:=1+belowV c 4
def ayC1 (c:Cur):Cur:=belowC (belowC (belowC c 4) 4) 15
def aySq (c:Cur):Nat:=(belowV (belowC c 4) 4).toNat
def ayAn (c:Cur):Nat:=(belowV (belowC (belowC c 4) 4) 15).toNat
def ayF (c:Cur):Nat:=1+(ayIn c).toNat+aySq c
def ayTop (c:Cur):Int:=2*((ayF c:Int)+ayAn c)
def ayPA (c:Cur):Cur×List AndD:=drA (ayF c) (ayC1 c) (ayAn c)
def ayPS (c:Cur):Cur×List SeqD:=drS (ayTop c) (ayPA c).1 (aySq c)
def ayPO (c:Cur):Cur×List Int:=drO (ayTop c) (belowC (ayPS c).1 4) ((belowV (ayPS c).1 4).toNat+1)
def ayG (c:Cur):GrD:=(ayIn c,(ayPS c).2,(ayPA c).2,(ayPO c).2)
def ayC (c:Cur):Cur:=(ayPO c).1
theorem ay_nums (c:Cur):(1≤ayIn c∧ayIn c≤4)∧aySq c≤3∧ayAn c≤14:=by
 have b1:=belowV_rng c (n:=4) (by omega)
 have b2:=belowV_rng (belowC c 4) (n:=4) (by omega)
 have b3:=belowV_rng (belowC (belowC c 4) 4) (n:=15) (by omega)
 unfold ayIn aySq ayAn
 omega
theorem ayC_ok {c:Cur} (h:c.ok):(ayC c).ok:=drO_ok (belowC_ok (drS_ok (drA_ok (belowC_ok (belowC_ok (belowC_ok h))) _) _)) _
theorem ayG_ok {c:Cur}:netOkB (ayG c)=true:=by
 obtain⟨h1,h2,h3⟩:=ay_nums c
 have hF:ayF c=1+(ayIn c).toNat+aySq c:=rfl
 have ht:ayTop c=2*((ayF c:Int)+ayAn c):=rfl
 have lS:(ayPS c).2.length=aySq c:=drS_len _
 have lA:(ayPA c).2.length=ayAn c:=drA_len _
 have lO:(ayPO c).2.length=(belowV (ayPS c).1 4).toNat+1:=drO_len _
 have b4:=belowV_rng (ayPS c).1 (n:=4) (by omega)
 have hN:grN (ayG c)=ayF c+ayAn c:=by
  show 1+(ayIn c).toNat+(ayPS c).2.length+(ayPA c).2.length=_
  omega
 have hG:firstG (ayG c)=ayF c:=by
  show 1+(ayIn c).toNat+(ayPS c).2.length=_
  omega
 have hS:=drS_good (top:=ayTop c) (c:=(ayPA c).1) (by omega) (aySq c)
 have hO:=drO_good (top:=ayTop c) (c:=belowC (ayPS c).1 4) (by omega) ((belowV (ayPS c).1 4).toNat+1)
 refine netOk_mk (by show 0≤ayIn c∧ayIn c≤20;omega) (by show (ayPS c).2.length≤12;omega) (by show (ayPA c).2.length≤300;omega) (by show (ayPO c).2.length≤16;omega) (fun s hs=>(hS s hs).1) (fun y hy=>?_) (fun s hs y hy=>?_) (andsFit_of fun k a ha=>?_)
 · have:=hO y hy;rw[hN];omega
 · have:=(hS s hs).2 y hy;rw[hN];omega
 · rw[hG,Nat.zero_add]
   exact drA_at (F:=ayF c) (c:=ayC1 c) (by omega) (ayAn c) k a ha
end Go.Proofs.Ytnjedabjbeipeaa
