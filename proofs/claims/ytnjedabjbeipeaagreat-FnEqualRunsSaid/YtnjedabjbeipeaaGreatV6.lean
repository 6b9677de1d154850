/-
  First contracts by abstract walks.
  Conditions: those typed in each theorem.
-/
import Derived.Test.YtnjedabjbeipeaaGreatV5
namespace Go.Proofs.YtnjedabjbeipeaaGreat
open Go.RowKit Go.ChangeShapes Go.WideShapes
set_option linter.unusedSimpArgs false
set_option linter.unusedVariables false
set_option maxRecDepth 100000
set_option maxHeartbeats 10000000
theorem Fl (n lo hi:Int):BA Tryz.prog 21 [.d (.int .i64 n),.d (.int .i64 lo),.d (.int .i64 hi)] (.d (.bool (DX n lo hi))):=by
 refine A6 (by kernel_rfl) Tryz.func21 rfl rfl rfl ?_;simp[Fk,KQ,↓BT,↓BS,BT,BS,HA,FC,H1,D6,H8,Fo,GK,EU,E4,D3,Ol,Hc,St.get,St.put,St.eval,GQ,evalT,Md,MD,Kb,iH,GC,DX];constructor<;>intro h<;>simp[Nf,GH,O3,Ht,Ip,CS,St.get,h]<;>omega
section
variable {β:Type} {ys:List β} {y z:β} {k:Nat}
end
abbrev Cx:Type:=Int×Int×List Int
def AY (x:Cx):List D:=e3 AC AC (Dr 3 (e1 AC)) x
end Go.Proofs.YtnjedabjbeipeaaGreat
