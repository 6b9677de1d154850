/-
  First contracts by abstract walks.
  Conditions: those typed in each theorem.
-/
import Derived.Test.YtnjedabjbeipeaaGreatV5
namespace Go.Proofs.YtnjedabjbeipeaaGreat
open Go.RowKit Go.ChangeShapes Go.WideShapes
set_option linter.unusedSimpArgs false
set_option linter.unusedVariables false
set_option maxRecDepth 100000
set_option maxHeartbeats 10000000
theorem Fo (n lo hi:Int):BA Tryz.prog 21 [.d (.int .i64 n),.d (.int .i64 lo),.d (.int .i64 hi)] (.d (.bool (DX n lo hi))):=by
 refine A6 (by kernel_rfl) Tryz.func21 rfl rfl rfl ?_;simp[Fl,K9,↓BT,↓BS,BT,BS,Hy,FC,H4,D0,HP,Fg,GP,Fd,EY,D2,OI,G5,St.get,St.put,St.eval,GR,evalT,Mq,MQ,Ks,iY,GB,DX];constructor<;>intro h<;>simp[Ns,GE,O5,Hr,Iq,CS,St.get,h]<;>omega
section
variable {β:Type} {ys:List β} {y z:β} {k:Nat}
end
abbrev Cv:Type:=Int×Int×List Int
def AY (x:Cv):List D:=e3 AC AC (Dt 3 (e1 AC)) x
end Go.Proofs.YtnjedabjbeipeaaGreat
