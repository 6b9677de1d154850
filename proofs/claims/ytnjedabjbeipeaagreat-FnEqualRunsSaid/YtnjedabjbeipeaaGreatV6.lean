/-
  First contracts by abstract walks.
  Conditions: those typed in each theorem.
-/
import Derived.Test.YtnjedabjbeipeaaGreatV5
namespace Go.Proofs.YtnjedabjbeipeaaGreat
open Go.RowKit Go.ChangeShapes Go.WideShapes
set_option linter.unusedSimpArgs false
set_option linter.unusedVariables false
set_option maxRecDepth 100000
set_option maxHeartbeats 10000000
theorem E8 (n lo hi:Int):Bx Tryz.prog 21 [.d (.int .i64 n),.d (.int .i64 lo),.d (.int .i64 hi)] (.d (.bool (DM n lo hi))):=by
 refine A5 (by kernel_rfl) Tryz.func21 rfl rfl rfl ?_;simp[E7,Kr,↓BQ,↓BM,BQ,BM,He,Fe,Ht,DN,Hv,EZ,Gh,ER,EK,DR,Oc,GH,St.get,St.put,St.eval,Gj,evalT,LE,Mz,JN,dZ,Gd,DM];constructor<;>intro h<;>simp[Nf,Ga,OC,G3,HZ,CK,St.get,h]<;>omega
section
variable {β:Type} {ys:List β} {y z:β} {k:Nat}
end
abbrev Cr:Type:=Int×Int×List Int
def AY (x:Cr):List D:=e3 AC AC (Dh 3 (e1 AC)) x
end Go.Proofs.YtnjedabjbeipeaaGreat
