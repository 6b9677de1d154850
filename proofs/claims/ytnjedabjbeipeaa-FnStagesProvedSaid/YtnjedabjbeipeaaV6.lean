/-
  First contracts by abstract walks.
  Conditions: those typed in each theorem.
-/
import Derived.Test.YtnjedabjbeipeaaV5
namespace Go.Proofs.Ytnjedabjbeipeaa
open Go.RowKit Go.ChangeShapes Go.WideShapes
set_option linter.unusedSimpArgs false
set_option linter.unusedVariables false
set_option maxRecDepth 100000
set_option maxHeartbeats 10000000
theorem CU (n lo hi:Int):CI Try.prog 73 [.d (.int .i64 n),.d (.int .i64 lo),.d (.int .i64 hi)] (.d (.bool (rng n lo hi))):=by
 refine BD (by kernel_rfl) Try.func73 rfl rfl rfl ?_;simp[GV,OB,↓Cn,↓B0,Cn,B0,Jd,Gp,Kg,Et,IJ,FT,Hd,Fk,Fw,DS,Pi,HC,St.get,St.put,St.eval,GN,evalT,Ud,UD,KO,WP,GS,rng];constructor<;>intro h<;>simp[Q8,Hy,TD,Io,JW,CT,St.get,h]<;>omega
section
variable {β:Type} {ys:List β} {y z:β} {k:Nat}
end
abbrev Dl:Type:=Int×Int×List Int
def A7 (x:Dl):List D:=e3 Az Az (B3 3 (e1 Az)) x
end Go.Proofs.Ytnjedabjbeipeaa
