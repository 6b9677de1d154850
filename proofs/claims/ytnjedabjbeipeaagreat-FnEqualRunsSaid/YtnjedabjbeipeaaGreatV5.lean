/-
  Facts on the program's types, for abstract walks.
  Conditions: none.
-/
import Derived.Test.YtnjedabjbeipeaaGreatV4
namespace Go.Proofs.YtnjedabjbeipeaaGreat
open Go.RowKit Go.ChangeShapes Go.WideShapes Go.ChangeAt Go.Deep Go.Joins
set_option linter.unusedSimpArgs false
set_option linter.unusedVariables false
set_option maxRecDepth 100000
set_option maxHeartbeats 10000000
@[simp] theorem AAd:(Tryz.prog.underlying 2).isSome=true:=by kernel_rfl
@[simp] theorem AAf:Dc Tryz.prog 2=false:=by kernel_rfl
@[simp] theorem AAz:Tryz.prog.cellsOf 2=1:=by kernel_rfl
@[simp] theorem AA9:Tryz.prog.bytesOf 2=8:=by kernel_rfl
@[simp] theorem AAh:Bj Tryz.prog 2=some [.d (.int .i64 0)]:=by kernel_rfl
@[simp] theorem AA8:Tryz.prog.underlying 2=some (.int .i64):=by kernel_rfl
@[simp] theorem AA0:(Tryz.prog.underlying 3).isSome=true:=by kernel_rfl
@[simp] theorem ABC:Dc Tryz.prog 3=false:=by kernel_rfl
@[simp] theorem AA6:Tryz.prog.cellsOf 3=1:=by kernel_rfl
@[simp] theorem AA7:Tryz.prog.bytesOf 3=8:=by kernel_rfl
@[simp] theorem ABH:Bj Tryz.prog 3=some [.d (.int .i64 0)]:=by kernel_rfl
@[simp] theorem AAx:Tryz.prog.underlying 3=some (.int .i64):=by kernel_rfl
@[simp] theorem AAk:(Tryz.prog.underlying 4).isSome=true:=by kernel_rfl
@[simp] theorem AA3:Dc Tryz.prog 4=false:=by kernel_rfl
@[simp] theorem ABE:Tryz.prog.cellsOf 4=1:=by kernel_rfl
@[simp] theorem ABA:Tryz.prog.bytesOf 4=1:=by kernel_rfl
@[simp] theorem AAq:Bj Tryz.prog 4=some [.d (.bool false)]:=by kernel_rfl
@[simp] theorem ABB:Tryz.prog.underlying 4=some .bool:=by kernel_rfl
@[simp] theorem ABD:(Tryz.prog.underlying 5).isSome=true:=by kernel_rfl
@[simp] theorem AAy:Dc Tryz.prog 5=false:=by kernel_rfl
@[simp] theorem AAl:Tryz.prog.cellsOf 5=1:=by kernel_rfl
@[simp] theorem ABM:Tryz.prog.bytesOf 5=1:=by kernel_rfl
@[simp] theorem AA4:Bj Tryz.prog 5=some [.d (.int .u8 0)]:=by kernel_rfl
@[simp] theorem ABF:Tryz.prog.underlying 5=some (.int .u8):=by kernel_rfl
@[simp] theorem AAo:(Tryz.prog.underlying 6).isSome=true:=by kernel_rfl
@[simp] theorem ABL:Dc Tryz.prog 6=false:=by kernel_rfl
@[simp] theorem AAg:Tryz.prog.cellsOf 6=1:=by kernel_rfl
@[simp] theorem ABG:Tryz.prog.bytesOf 6=1:=by kernel_rfl
@[simp] theorem AAt:Bj Tryz.prog 6=some [.d (.int .u8 0)]:=by kernel_rfl
@[simp] theorem ABI:Tryz.prog.underlying 6=some (.int .u8):=by kernel_rfl
@[simp] theorem AAj:(Tryz.prog.underlying 7).isSome=true:=by kernel_rfl
@[simp] theorem AAb:Dc Tryz.prog 7=true:=by kernel_rfl
@[simp] theorem AAv:Tryz.prog.cellsOf 7=4:=by kernel_rfl
@[simp] theorem AAc:Tryz.prog.bytesOf 7=24:=by kernel_rfl
@[simp] theorem yE:AS Tryz.prog 7 0=some (0,2):=by kernel_rfl
@[simp] theorem AAX:AS Tryz.prog 7 1=some (1,3):=by kernel_rfl
@[simp] theorem yH:AS Tryz.prog 7 2=some (2,4):=by kernel_rfl
@[simp] theorem zA:AS Tryz.prog 7 3=some (3,6):=by kernel_rfl
@[simp] theorem ABJ:Bj Tryz.prog 7=some [.d (.int .i64 0),.d (.int .i64 0),.d (.bool false),.d (.int .u8 0)]:=by kernel_rfl
@[simp] theorem AAe:(Tryz.prog.underlying 8).isSome=true:=by kernel_rfl
@[simp] theorem AAa:Dc Tryz.prog 8=true:=by kernel_rfl
@[simp] theorem AAr:Tryz.prog.cellsOf 8=4:=by kernel_rfl
@[simp] theorem AAn:Tryz.prog.bytesOf 8=24:=by kernel_rfl
@[simp] theorem yN:AS Tryz.prog 8 0=some (0,2):=by kernel_rfl
@[simp] theorem zL:AS Tryz.prog 8 1=some (1,3):=by kernel_rfl
@[simp] theorem yB:AS Tryz.prog 8 2=some (2,4):=by kernel_rfl
@[simp] theorem AAL:AS Tryz.prog 8 3=some (3,6):=by kernel_rfl
@[simp] theorem ABK:Bj Tryz.prog 8=some [.d (.int .i64 0),.d (.int .i64 0),.d (.bool false),.d (.int .u8 0)]:=by kernel_rfl
@[simp] theorem xL:(Tryz.prog.underlying 12).isSome=true:=by kernel_rfl
@[simp] theorem xF:Dc Tryz.prog 12=false:=by kernel_rfl
@[simp] theorem zO:Tryz.prog.cellsOf 12=1:=by kernel_rfl
@[simp] theorem AAH:Tryz.prog.bytesOf 12=8:=by kernel_rfl
@[simp] theorem yD:Bj Tryz.prog 12=some [.d (.int .u64 0)]:=by kernel_rfl
@[simp] theorem wZ:Tryz.prog.underlying 12=some (.int .u64):=by kernel_rfl
@[simp] theorem wP:(Tryz.prog.underlying 21).isSome=true:=by kernel_rfl
@[simp] theorem yC:Dc Tryz.prog 21=false:=by kernel_rfl
@[simp] theorem zU:Tryz.prog.cellsOf 21=1:=by kernel_rfl
@[simp] theorem vU:Tryz.prog.bytesOf 21=4:=by kernel_rfl
@[simp] theorem yS:Bj Tryz.prog 21=some [.d (.int .i32 0)]:=by kernel_rfl
@[simp] theorem vR:Tryz.prog.underlying 21=some (.int .i32):=by kernel_rfl
@[simp] theorem xW:(Tryz.prog.underlying 22).isSome=true:=by kernel_rfl
@[simp] theorem wF:Dc Tryz.prog 22=false:=by kernel_rfl
@[simp] theorem yQ:Tryz.prog.cellsOf 22=1:=by kernel_rfl
@[simp] theorem AAV:Tryz.prog.bytesOf 22=24:=by kernel_rfl
@[simp] theorem wR:BP Tryz.prog 22=some 5:=by kernel_rfl
@[simp] theorem uS:Bj Tryz.prog 22=some [.nil 5]:=by kernel_rfl
@[simp] theorem AAE:(Tryz.prog.underlying 24).isSome=true:=by kernel_rfl
@[simp] theorem zY:Dc Tryz.prog 24=false:=by kernel_rfl
@[simp] theorem wI:Tryz.prog.cellsOf 24=1:=by kernel_rfl
@[simp] theorem vG:Tryz.prog.bytesOf 24=24:=by kernel_rfl
@[simp] theorem BX:BP Tryz.prog 24=some 57:=by kernel_rfl
@[simp] theorem uU:Bj Tryz.prog 24=some [.nil 57]:=by kernel_rfl
@[simp] theorem vI:(Tryz.prog.underlying 25).isSome=true:=by kernel_rfl
@[simp] theorem yP:Dc Tryz.prog 25=false:=by kernel_rfl
@[simp] theorem yU:Tryz.prog.cellsOf 25=1:=by kernel_rfl
@[simp] theorem yY:Tryz.prog.bytesOf 25=24:=by kernel_rfl
@[simp] theorem D0:BP Tryz.prog 25=some 63:=by kernel_rfl
@[simp] theorem wB:Bj Tryz.prog 25=some [.nil 63]:=by kernel_rfl
@[simp] theorem xO:(Tryz.prog.underlying 26).isSome=true:=by kernel_rfl
@[simp] theorem AAU:Dc Tryz.prog 26=false:=by kernel_rfl
@[simp] theorem vC:Tryz.prog.cellsOf 26=1:=by kernel_rfl
@[simp] theorem vP:Tryz.prog.bytesOf 26=24:=by kernel_rfl
@[simp] theorem As:BP Tryz.prog 26=some 3:=by kernel_rfl
@[simp] theorem wN:Bj Tryz.prog 26=some [.nil 3]:=by kernel_rfl
@[simp] theorem zM:(Tryz.prog.underlying 27).isSome=true:=by kernel_rfl
@[simp] theorem xY:Dc Tryz.prog 27=true:=by kernel_rfl
@[simp] theorem vW:Tryz.prog.cellsOf 27=4:=by kernel_rfl
@[simp] theorem zP:Tryz.prog.bytesOf 27=80:=by kernel_rfl
@[simp] theorem rO:AS Tryz.prog 27 0=some (0,3):=by kernel_rfl
@[simp] theorem sU:AS Tryz.prog 27 1=some (1,24):=by kernel_rfl
@[simp] theorem tP:AS Tryz.prog 27 2=some (2,25):=by kernel_rfl
@[simp] theorem rG:AS Tryz.prog 27 3=some (3,26):=by kernel_rfl
@[simp] theorem zF:Bj Tryz.prog 27=some [.d (.int .i64 0),.nil 57,.nil 63,.nil 3]:=by kernel_rfl
@[simp] theorem AAS:(Tryz.prog.underlying 28).isSome=true:=by kernel_rfl
@[simp] theorem vD:Dc Tryz.prog 28=true:=by kernel_rfl
@[simp] theorem vL:Tryz.prog.cellsOf 28=4:=by kernel_rfl
@[simp] theorem AAM:Tryz.prog.bytesOf 28=80:=by kernel_rfl
@[simp] theorem tQ:AS Tryz.prog 28 0=some (0,3):=by kernel_rfl
@[simp] theorem rI:AS Tryz.prog 28 1=some (1,24):=by kernel_rfl
@[simp] theorem qX:AS Tryz.prog 28 2=some (2,25):=by kernel_rfl
@[simp] theorem pV:AS Tryz.prog 28 3=some (3,26):=by kernel_rfl
@[simp] theorem uW:Bj Tryz.prog 28=some [.d (.int .i64 0),.nil 57,.nil 63,.nil 3]:=by kernel_rfl
@[simp] theorem xR:(Tryz.prog.underlying 32).isSome=true:=by kernel_rfl
@[simp] theorem AAA:Dc Tryz.prog 32=false:=by kernel_rfl
@[simp] theorem AAZ:Tryz.prog.cellsOf 32=1:=by kernel_rfl
@[simp] theorem xK:Tryz.prog.bytesOf 32=24:=by kernel_rfl
@[simp] theorem AM:BP Tryz.prog 32=some 26:=by kernel_rfl
@[simp] theorem xI:Bj Tryz.prog 32=some [.nil 26]:=by kernel_rfl
@[simp] theorem AAG:(Tryz.prog.underlying 45).isSome=true:=by kernel_rfl
@[simp] theorem AAQ:Dc Tryz.prog 45=true:=by kernel_rfl
@[simp] theorem xP:Tryz.prog.cellsOf 45=2:=by kernel_rfl
@[simp] theorem AAR:Tryz.prog.bytesOf 45=32:=by kernel_rfl
@[simp] theorem qF:AS Tryz.prog 45 0=some (0,3):=by kernel_rfl
@[simp] theorem sF:AS Tryz.prog 45 1=some (1,32):=by kernel_rfl
@[simp] theorem zQ:Bj Tryz.prog 45=some [.d (.int .i64 0),.nil 26]:=by kernel_rfl
@[simp] theorem uL:(Tryz.prog.underlying 46).isSome=true:=by kernel_rfl
@[simp] theorem yM:Dc Tryz.prog 46=true:=by kernel_rfl
@[simp] theorem zW:Tryz.prog.cellsOf 46=2:=by kernel_rfl
@[simp] theorem wJ:Tryz.prog.bytesOf 46=32:=by kernel_rfl
@[simp] theorem tJ:AS Tryz.prog 46 0=some (0,3):=by kernel_rfl
@[simp] theorem sK:AS Tryz.prog 46 1=some (1,32):=by kernel_rfl
@[simp] theorem zT:Bj Tryz.prog 46=some [.d (.int .i64 0),.nil 26]:=by kernel_rfl
@[simp] theorem AAT:(Tryz.prog.underlying 49).isSome=true:=by kernel_rfl
@[simp] theorem xM:Dc Tryz.prog 49=false:=by kernel_rfl
@[simp] theorem yX:Tryz.prog.cellsOf 49=1:=by kernel_rfl
@[simp] theorem zI:Tryz.prog.bytesOf 49=24:=by kernel_rfl
@[simp] theorem LN:BP Tryz.prog 49=some 4:=by kernel_rfl
@[simp] theorem wD:Bj Tryz.prog 49=some [.nil 4]:=by kernel_rfl
@[simp] theorem zE:(Tryz.prog.underlying 54).isSome=true:=by kernel_rfl
@[simp] theorem vA:Dc Tryz.prog 54=false:=by kernel_rfl
@[simp] theorem uV:Tryz.prog.cellsOf 54=1:=by kernel_rfl
@[simp] theorem uY:Tryz.prog.bytesOf 54=8:=by kernel_rfl
@[simp] theorem zK:Bj Tryz.prog 54=some [.d (.int .u64 0)]:=by kernel_rfl
@[simp] theorem yI:Tryz.prog.underlying 54=some (.int .u64):=by kernel_rfl
@[simp] theorem zN:(Tryz.prog.underlying 56).isSome=true:=by kernel_rfl
@[simp] theorem uO:Dc Tryz.prog 56=true:=by kernel_rfl
@[simp] theorem xX:Tryz.prog.cellsOf 56=3:=by kernel_rfl
@[simp] theorem AAI:Tryz.prog.bytesOf 56=40:=by kernel_rfl
@[simp] theorem qO:AS Tryz.prog 56 0=some (0,3):=by kernel_rfl
@[simp] theorem rQ:AS Tryz.prog 56 1=some (1,3):=by kernel_rfl
@[simp] theorem sG:AS Tryz.prog 56 2=some (2,26):=by kernel_rfl
@[simp] theorem xG:Bj Tryz.prog 56=some [.d (.int .i64 0),.d (.int .i64 0),.nil 3]:=by kernel_rfl
@[simp] theorem uX:(Tryz.prog.underlying 57).isSome=true:=by kernel_rfl
@[simp] theorem zS:Dc Tryz.prog 57=true:=by kernel_rfl
@[simp] theorem zC:Tryz.prog.cellsOf 57=3:=by kernel_rfl
@[simp] theorem uM:Tryz.prog.bytesOf 57=40:=by kernel_rfl
@[simp] theorem rU:AS Tryz.prog 57 0=some (0,3):=by kernel_rfl
@[simp] theorem rC:AS Tryz.prog 57 1=some (1,3):=by kernel_rfl
@[simp] theorem uF:AS Tryz.prog 57 2=some (2,26):=by kernel_rfl
@[simp] theorem vM:Bj Tryz.prog 57=some [.d (.int .i64 0),.d (.int .i64 0),.nil 3]:=by kernel_rfl
@[simp] theorem AAN:(Tryz.prog.underlying 62).isSome=true:=by kernel_rfl
@[simp] theorem wQ:Dc Tryz.prog 62=true:=by kernel_rfl
@[simp] theorem AAF:Tryz.prog.cellsOf 62=2:=by kernel_rfl
@[simp] theorem yR:Tryz.prog.bytesOf 62=16:=by kernel_rfl
@[simp] theorem uG:AS Tryz.prog 62 0=some (0,3):=by kernel_rfl
@[simp] theorem qG:AS Tryz.prog 62 1=some (1,3):=by kernel_rfl
@[simp] theorem uJ:Bj Tryz.prog 62=some [.d (.int .i64 0),.d (.int .i64 0)]:=by kernel_rfl
@[simp] theorem vQ:JY Tryz.prog 62=true:=by kernel_rfl
@[simp] theorem yZ:(Tryz.prog.underlying 63).isSome=true:=by kernel_rfl
@[simp] theorem zJ:Dc Tryz.prog 63=true:=by kernel_rfl
@[simp] theorem xS:Tryz.prog.cellsOf 63=2:=by kernel_rfl
@[simp] theorem zB:Tryz.prog.bytesOf 63=16:=by kernel_rfl
@[simp] theorem sO:AS Tryz.prog 63 0=some (0,3):=by kernel_rfl
@[simp] theorem qP:AS Tryz.prog 63 1=some (1,3):=by kernel_rfl
@[simp] theorem wS:Bj Tryz.prog 63=some [.d (.int .i64 0),.d (.int .i64 0)]:=by kernel_rfl
@[simp] theorem yO:JY Tryz.prog 63=true:=by kernel_rfl
@[simp] theorem wT:(Tryz.prog.underlying 65).isSome=true:=by kernel_rfl
@[simp] theorem vB:Dc Tryz.prog 65=true:=by kernel_rfl
@[simp] theorem AAW:Tryz.prog.cellsOf 65=3:=by kernel_rfl
@[simp] theorem wE:Tryz.prog.bytesOf 65=40:=by kernel_rfl
@[simp] theorem qL:AS Tryz.prog 65 0=some (0,22):=by kernel_rfl
@[simp] theorem pX:AS Tryz.prog 65 1=some (1,3):=by kernel_rfl
@[simp] theorem rF:AS Tryz.prog 65 2=some (2,3):=by kernel_rfl
@[simp] theorem yL:Bj Tryz.prog 65=some [.nil 5,.d (.int .i64 0),.d (.int .i64 0)]:=by kernel_rfl
@[simp] theorem wL:(Tryz.prog.underlying 66).isSome=true:=by kernel_rfl
@[simp] theorem wV:Dc Tryz.prog 66=true:=by kernel_rfl
@[simp] theorem xQ:Tryz.prog.cellsOf 66=3:=by kernel_rfl
@[simp] theorem uP:Tryz.prog.bytesOf 66=40:=by kernel_rfl
@[simp] theorem sN:AS Tryz.prog 66 0=some (0,22):=by kernel_rfl
@[simp] theorem uH:AS Tryz.prog 66 1=some (1,3):=by kernel_rfl
@[simp] theorem rN:AS Tryz.prog 66 2=some (2,3):=by kernel_rfl
@[simp] theorem wH:Bj Tryz.prog 66=some [.nil 5,.d (.int .i64 0),.d (.int .i64 0)]:=by kernel_rfl
@[simp] theorem uZ:(Tryz.prog.underlying 79).isSome=true:=by kernel_rfl
@[simp] theorem wW:Dc Tryz.prog 79=true:=by kernel_rfl
@[simp] theorem vK:Tryz.prog.cellsOf 79=5:=by kernel_rfl
@[simp] theorem xZ:Tryz.prog.bytesOf 79=88:=by kernel_rfl
@[simp] theorem pW:AS Tryz.prog 79 0=some (0,46):=by kernel_rfl
@[simp] theorem rY:AS Tryz.prog 79 1=some (2,3):=by kernel_rfl
@[simp] theorem sD:AS Tryz.prog 79 2=some (3,32):=by kernel_rfl
@[simp] theorem qH:AS Tryz.prog 79 3=some (4,26):=by kernel_rfl
@[simp] theorem AAO:Bj Tryz.prog 79=some [.d (.int .i64 0),.nil 26,.d (.int .i64 0),.nil 26,.nil 3]:=by kernel_rfl
@[simp] theorem yT:(Tryz.prog.underlying 80).isSome=true:=by kernel_rfl
@[simp] theorem wA:Dc Tryz.prog 80=true:=by kernel_rfl
@[simp] theorem zD:Tryz.prog.cellsOf 80=5:=by kernel_rfl
@[simp] theorem zH:Tryz.prog.bytesOf 80=88:=by kernel_rfl
@[simp] theorem tU:AS Tryz.prog 80 0=some (0,46):=by kernel_rfl
@[simp] theorem sZ:AS Tryz.prog 80 1=some (2,3):=by kernel_rfl
@[simp] theorem uB:AS Tryz.prog 80 2=some (3,32):=by kernel_rfl
@[simp] theorem rV:AS Tryz.prog 80 3=some (4,26):=by kernel_rfl
@[simp] theorem wO:Bj Tryz.prog 80=some [.d (.int .i64 0),.nil 26,.d (.int .i64 0),.nil 26,.nil 3]:=by kernel_rfl
@[simp] theorem xT:(Tryz.prog.underlying 83).isSome=true:=by kernel_rfl
@[simp] theorem vE:Dc Tryz.prog 83=false:=by kernel_rfl
@[simp] theorem xV:Tryz.prog.cellsOf 83=1:=by kernel_rfl
@[simp] theorem vY:Tryz.prog.bytesOf 83=24:=by kernel_rfl
@[simp] theorem AAP:BP Tryz.prog 83=some 28:=by kernel_rfl
@[simp] theorem xU:Bj Tryz.prog 83=some [.nil 28]:=by kernel_rfl
@[simp] theorem AAJ:(Tryz.prog.underlying 90).isSome=true:=by kernel_rfl
@[simp] theorem vH:Dc Tryz.prog 90=true:=by kernel_rfl
@[simp] theorem uK:Tryz.prog.cellsOf 90=6:=by kernel_rfl
@[simp] theorem wY:Tryz.prog.bytesOf 90=96:=by kernel_rfl
@[simp] theorem qN:AS Tryz.prog 90 0=some (0,46):=by kernel_rfl
@[simp] theorem qI:AS Tryz.prog 90 1=some (2,3):=by kernel_rfl
@[simp] theorem tN:AS Tryz.prog 90 2=some (3,3):=by kernel_rfl
@[simp] theorem tK:AS Tryz.prog 90 3=some (4,32):=by kernel_rfl
@[simp] theorem tR:AS Tryz.prog 90 4=some (5,26):=by kernel_rfl
@[simp] theorem yF:Bj Tryz.prog 90=some [.d (.int .i64 0),.nil 26,.d (.int .i64 0),.d (.int .i64 0),.nil 26,.nil 3]:=by kernel_rfl
@[simp] theorem wM:(Tryz.prog.underlying 91).isSome=true:=by kernel_rfl
@[simp] theorem vV:Dc Tryz.prog 91=true:=by kernel_rfl
@[simp] theorem zX:Tryz.prog.cellsOf 91=6:=by kernel_rfl
@[simp] theorem vO:Tryz.prog.bytesOf 91=96:=by kernel_rfl
@[simp] theorem qJ:AS Tryz.prog 91 0=some (0,46):=by kernel_rfl
@[simp] theorem uA:AS Tryz.prog 91 1=some (2,3):=by kernel_rfl
@[simp] theorem tX:AS Tryz.prog 91 2=some (3,3):=by kernel_rfl
@[simp] theorem qB:AS Tryz.prog 91 3=some (4,32):=by kernel_rfl
@[simp] theorem sY:AS Tryz.prog 91 4=some (5,26):=by kernel_rfl
@[simp] theorem xN:Bj Tryz.prog 91=some [.d (.int .i64 0),.nil 26,.d (.int .i64 0),.d (.int .i64 0),.nil 26,.nil 3]:=by kernel_rfl
@[simp] theorem sH:(Tryz.prog.underlying 114).isSome=true:=by kernel_rfl
@[simp] theorem qA:Dc Tryz.prog 114=false:=by kernel_rfl
@[simp] theorem rL:Tryz.prog.cellsOf 114=1:=by kernel_rfl
@[simp] theorem sC:Tryz.prog.bytesOf 114=24:=by kernel_rfl
@[simp] theorem RF:BP Tryz.prog 114=some 32:=by kernel_rfl
@[simp] theorem tF:Bj Tryz.prog 114=some [.nil 32]:=by kernel_rfl
@[simp] theorem pU:(Tryz.prog.underlying 117).isSome=true:=by kernel_rfl
@[simp] theorem tW:Dc Tryz.prog 117=true:=by kernel_rfl
@[simp] theorem tI:Tryz.prog.cellsOf 117=2:=by kernel_rfl
@[simp] theorem rX:Tryz.prog.bytesOf 117=16:=by kernel_rfl
@[simp] theorem pK:AS Tryz.prog 117 0=some (0,3):=by kernel_rfl
@[simp] theorem pM:AS Tryz.prog 117 1=some (1,3):=by kernel_rfl
@[simp] theorem tH:Bj Tryz.prog 117=some [.d (.int .i64 0),.d (.int .i64 0)]:=by kernel_rfl
@[simp] theorem sV:JY Tryz.prog 117=true:=by kernel_rfl
@[simp] theorem rK:(Tryz.prog.underlying 118).isSome=true:=by kernel_rfl
@[simp] theorem rP:Dc Tryz.prog 118=true:=by kernel_rfl
@[simp] theorem tT:Tryz.prog.cellsOf 118=2:=by kernel_rfl
@[simp] theorem pZ:Tryz.prog.bytesOf 118=16:=by kernel_rfl
@[simp] theorem oQ:AS Tryz.prog 118 0=some (0,3):=by kernel_rfl
@[simp] theorem oO:AS Tryz.prog 118 1=some (1,3):=by kernel_rfl
@[simp] theorem sS:Bj Tryz.prog 118=some [.d (.int .i64 0),.d (.int .i64 0)]:=by kernel_rfl
@[simp] theorem tS:JY Tryz.prog 118=true:=by kernel_rfl
@[simp] theorem tE:(Tryz.prog.underlying 120).isSome=true:=by kernel_rfl
@[simp] theorem qT:Dc Tryz.prog 120=false:=by kernel_rfl
@[simp] theorem tL:Tryz.prog.cellsOf 120=1:=by kernel_rfl
@[simp] theorem tC:Tryz.prog.bytesOf 120=24:=by kernel_rfl
@[simp] theorem MG:BP Tryz.prog 120=some 133:=by kernel_rfl
@[simp] theorem qK:Bj Tryz.prog 120=some [.nil 133]:=by kernel_rfl
@[simp] theorem rR:(Tryz.prog.underlying 132).isSome=true:=by kernel_rfl
@[simp] theorem qD:Dc Tryz.prog 132=true:=by kernel_rfl
@[simp] theorem rH:Tryz.prog.cellsOf 132=2:=by kernel_rfl
@[simp] theorem tG:Tryz.prog.bytesOf 132=16:=by kernel_rfl
@[simp] theorem oS:AS Tryz.prog 132 0=some (0,3):=by kernel_rfl
@[simp] theorem oV:AS Tryz.prog 132 1=some (1,3):=by kernel_rfl
@[simp] theorem qE:Bj Tryz.prog 132=some [.d (.int .i64 0),.d (.int .i64 0)]:=by kernel_rfl
@[simp] theorem sI:JY Tryz.prog 132=true:=by kernel_rfl
@[simp] theorem rD:(Tryz.prog.underlying 133).isSome=true:=by kernel_rfl
@[simp] theorem pY:Dc Tryz.prog 133=true:=by kernel_rfl
@[simp] theorem Sf:Tryz.prog.cellsOf 133=2:=by kernel_rfl
@[simp] theorem uC:Tryz.prog.bytesOf 133=16:=by kernel_rfl
@[simp] theorem pF:AS Tryz.prog 133 0=some (0,3):=by kernel_rfl
@[simp] theorem pO:AS Tryz.prog 133 1=some (1,3):=by kernel_rfl
@[simp] theorem sM:Bj Tryz.prog 133=some [.d (.int .i64 0),.d (.int .i64 0)]:=by kernel_rfl
@[simp] theorem qW:JY Tryz.prog 133=true:=by kernel_rfl
@[simp] theorem tV:(Tryz.prog.underlying 142).isSome=true:=by kernel_rfl
@[simp] theorem sW:(Tryz.prog.underlying 146).isSome=true:=by kernel_rfl
@[simp] theorem sP:Dc Tryz.prog 146=false:=by kernel_rfl
@[simp] theorem tO:Tryz.prog.cellsOf 146=1:=by kernel_rfl
@[simp] theorem sT:Tryz.prog.bytesOf 146=4:=by kernel_rfl
@[simp] theorem qV:Bj Tryz.prog 146=some [.d (.int .u32 0)]:=by kernel_rfl
@[simp] theorem tM:Tryz.prog.underlying 146=some (.int .u32):=by kernel_rfl
@[simp] theorem qU:(Tryz.prog.underlying 147).isSome=true:=by kernel_rfl
@[simp] theorem qY:Dc Tryz.prog 147=false:=by kernel_rfl
@[simp] theorem sL:Tryz.prog.cellsOf 147=1:=by kernel_rfl
@[simp] theorem qR:Tryz.prog.bytesOf 147=1:=by kernel_rfl
@[simp] theorem tZ:Bj Tryz.prog 147=some [.d (.int .u8 0)]:=by kernel_rfl
@[simp] theorem tD:Tryz.prog.underlying 147=some (.int .u8):=by kernel_rfl
@[simp] theorem rT:(Tryz.prog.underlying 148).isSome=true:=by kernel_rfl
@[simp] theorem qS:Dc Tryz.prog 148=false:=by kernel_rfl
@[simp] theorem qZ:Tryz.prog.cellsOf 148=1:=by kernel_rfl
@[simp] theorem rZ:Tryz.prog.bytesOf 148=1:=by kernel_rfl
@[simp] theorem sE:Bj Tryz.prog 148=some [.d (.int .u8 0)]:=by kernel_rfl
@[simp] theorem sQ:Tryz.prog.underlying 148=some (.int .u8):=by kernel_rfl
@[simp] theorem sR:(Tryz.prog.underlying 151).isSome=true:=by kernel_rfl
@[simp] theorem qC:Dc Tryz.prog 151=false:=by kernel_rfl
@[simp] theorem rS:Tryz.prog.cellsOf 151=1:=by kernel_rfl
@[simp] theorem sX:Tryz.prog.bytesOf 151=4:=by kernel_rfl
@[simp] theorem qQ:Bj Tryz.prog 151=some [.d (.int .i32 0)]:=by kernel_rfl
@[simp] theorem sJ:Tryz.prog.underlying 151=some (.int .i32):=by kernel_rfl
@[simp] theorem uD:(Tryz.prog.underlying 152).isSome=true:=by kernel_rfl
@[simp] theorem rJ:Dc Tryz.prog 152=false:=by kernel_rfl
@[simp] theorem qM:Tryz.prog.cellsOf 152=1:=by kernel_rfl
@[simp] theorem uE:Tryz.prog.bytesOf 152=4:=by kernel_rfl
@[simp] theorem uI:Bj Tryz.prog 152=some [.d (.int .i32 0)]:=by kernel_rfl
@[simp] theorem rE:Tryz.prog.underlying 152=some (.int .i32):=by kernel_rfl
section
variable {P:Program} {m:Mode} {Q:Exit→St→Prop} {σ:St} {dr:Bool}
theorem WN:Ii P m .skip Q σ=Q .normal σ:=rfl
theorem Lz {id n:Nat} {s b:Bool} {ops:Array Oper}:Ii P ⟨n,s,b,false⟩ (.region id ops true) Q σ=(TP ops=true∧Bh P ⟨n,s,false,false⟩ ops (Q .normal) ops.toList σ):=rfl
theorem TO {id n:Nat} {s b:Bool} {ops:Array Oper}:Ii P ⟨n,s,b,true⟩ (.region id ops true) Q σ=SO P ⟨n,s,b,true⟩ ops Q σ:=rfl
theorem AJ {n:Nat} {s b:Bool} {ops:Array Oper} (q:Nat) (h:JZ ops q=true) (h2:Bh P ⟨n,s,false,true⟩ ops (Bh P ⟨n,s,b,true⟩ ops (Q .normal) (ops.toList.drop q)) (ops.toList.take q) σ):SO P ⟨n,s,b,true⟩ ops Q σ:=.inl (.inl ⟨q,h,h2⟩)
theorem E7 {id:Nat} {ops:Array Oper}:Ii P m (.region id ops false) Q σ=Bh P m ops (Q .normal) ops.toList σ:=rfl
theorem dL {n:Nat} {s b q:Bool}:(⟨n,s,b,q⟩:Mode).still=⟨n,s,false,q⟩:=rfl
theorem Kr {a b:Code}:Ii P m (.seq a b) Q σ=Ii P m a (GH (Ii P m b Q) Q) σ:=rfl
def Kb (t:Bool) (A B:Prop):Prop:=(t=true→A)∧(t=false→B)
theorem Qq {A B:Prop}:Kb true A B=A:=by simp[Kb]
theorem N1 {A B:Prop}:Kb false A B=B:=by simp[Kb]
def U7 (t:Bool) (A B:Prop):Prop:=Kb t A B
@[congr] theorem nK {t t':Bool} {A B:Prop} (h:t=t'):U7 t A B=U7 t' A B:=by rw[h]
theorem BQ {A B:Prop}:U7 true A B=A:=Qq
theorem BM {A B:Prop}:U7 false A B=B:=N1
def nJ (P:Program) (m:Mode) (x y:Code) (Q:Exit→St→Prop) (σ:St) (v:V):Prop :=
 match v with
 | .d (.bool t)=>Kb t (Ii P m x Q σ) (Ii P m y Q σ)
 | _=>False
theorem Qg {x y:Code} {t:Bool}:nJ P m x y Q σ (.d (.bool t))=Kb t (Ii P m x Q σ) (Ii P m y Q σ):=rfl
theorem V7 {c:Operand} {x y:Code}:Ii P m (.cond c x y) Q σ=nJ P m x y Q σ (σ.eval c):=by
 show (match σ.eval c with
  | .d (.bool t)=>(t=true→Ii P m x Q σ)∧(t=false→Ii P m y Q σ)
  | _=>False)=_
 rfl
theorem RS {id:Nat} {c:Code}:Ii P m (.block id c) Q σ=Ii P m c (Hr id Q) σ:=rfl
theorem eQ {id:Nat}:Ii P m (.exit id) Q σ=Q (.exit id) σ:=rfl
theorem He:Ii P m .ret Q σ=Q .ret σ:=rfl
section
variable {K:St→Prop} {d:Option Tmp} {ty:TypeId} {pos:String} {af:Array Edge} {g:Option (Nat×Bool)} {x y z:Operand} {t s:TypeId} {f n:Nat}
theorem jM {o:Oper} (h:Vj P m o K σ=∃ x news,(Ho P m.st σ o=some x∧news=[])∧K (St.put ⟨σ.tmps,σ.slots++news⟩ o.dst x)):Vj P m o K σ=∃ x,Ho P m.st σ o=some x∧K (σ.put o.dst x):=by
 rw[h];apply propext;constructor
 · rintro⟨x,news,⟨h1,rfl⟩,h2⟩;rw[List.append_nil] at h2;exact⟨x,h1,h2⟩
 · rintro⟨x,h1,h2⟩;exact⟨x,[],⟨h1,rfl⟩,by rw[List.append_nil];exact h2⟩
theorem TI {v:V} {K:V→Prop}:(∃ x,some v=some x∧K x)=K v:=by
 apply propext;constructor
 · rintro⟨x,h,hk⟩;cases h;exact hk
 · exact fun h=>⟨v,rfl,h⟩
variable {ops:Array Oper} {rest:List Oper}
def FK (P:Program) (m:Mode) (ops:Array Oper) (K:St→Prop) (rest:List Oper) (σ:St) (d:Option Tmp) (v:Option V):Prop:=∃ x,v=some x∧Bh P m ops K rest (σ.put d x)
theorem DR {v:V}:FK P m ops K rest σ d (some v)=Bh P m ops K rest (σ.put d v):=TI
def dU (P:Program) (m:Mode) (ops:Array Oper) (K:St→Prop) (T:List (Oper×List Nat)) (N:List (Nat×List Nat)) (σ:St):Prop:=Gb P m ops N σ.slots K T σ
theorem aM {T:List (Oper×List Nat)} {N:List (Nat×List Nat)} {ts:List V} {sl:List Ah}:dU P m ops K T N ⟨ts,sl⟩=Gb P m ops N sl K T ⟨ts,sl⟩:=rfl
def oB (P:Program) (m:Mode) (ops:Array Oper) (N:List (Nat×List Nat)) (sl0:List Ah) (K:St→Prop) (ns:List Nat) (T:List (Oper×List Nat)) (σ:St):Prop:=Fm sl0 σ.slots ns N∧Gb P m ops N sl0 K T σ
theorem eH {T:List (Oper×List Nat)} {N:List (Nat×List Nat)} {sl0:List Ah} {ns:List Nat} {ts:List V} {sl:List Ah}:oB P m ops N sl0 K ns T ⟨ts,sl⟩=(Fm sl0 sl ns N∧Gb P m ops N sl0 K T ⟨ts,sl⟩):=rfl
theorem aZ {KE:List (Nat×List Nat)→St→Prop} {ts N:List (Nat×List Nat)}:JS P m ops ts KE [] N σ=KE N σ:=rfl
theorem Xf {KE:List (Nat×List Nat)→St→Prop} {ts N:List (Nat×List Nat)} {i:Nat} {o:Oper} {E:List (Nat×Oper)}:JS P m ops ts KE ((i,o)::E) N σ=Bh P m ops (JS P m ops ts KE E (if NS ts i=true then (i,Gu o σ)::N else N)) [o] σ:=rfl
theorem cI {N:List (Nat×List Nat)} {sl0:List Ah}:Gb P m ops N sl0 K [] σ=K σ:=rfl
def Ud (P:Program) (m:Mode) (ops:Array Oper) (N:List (Nat×List Nat)) (sl0:List Ah) (K:St→Prop) (ns:List Nat) (T:List (Oper×List Nat)) (σ:St) (d:Option Tmp) (f:FuncId) (xs near:List V):Prop :=
 m.st=false∧∃ (ks π:List Nat) (args:List V) (slc:List Ah) (q:V) (slc':List Ah),CG P f args slc q slc'∧BN slc∧ks.Nodup∧Je σ.slots ks∧π.Nodup∧EA true (kill ks σ.slots) π π slc∧HA true (kill ks σ.slots) π (xs.map (KV σ.slots ks)) args ∧
  (∀ k∈ks++π,A9 σ.slots near k)∧dS (kill ks σ.slots) π q slc' fun z r=>Fm sl0 r ns N∧Gb P m ops N sl0 K T (St.put ⟨σ.tmps,r⟩ d z)
def fS (t:Bool) (A B:Prop):Prop:=if t=true then A else B
theorem Qk {A B:Prop}:fS true A B=A:=rfl
theorem Ve {A B:Prop}:fS false A B=B:=rfl
def TF (P:Program) (m:Mode) (ops:Array Oper) (N:List (Nat×List Nat)) (sl0:List Ah) (K:St→Prop) (ns:List Nat) (T:List (Oper×List Nat)) (σ:St) (d:Option Tmp) (v:V) (xs:List V):Prop :=
 match v with
 | .fn f caps=>Ud P m ops N sl0 K ns T σ d f (xs++caps) (.fn f caps::xs)
 | _=>False
theorem KA {N:List (Nat×List Nat)} {sl0:List Ah} {ns:List Nat} {T:List (Oper×List Nat)} {f:FuncId} {caps xs:List V}:TF P m ops N sl0 K ns T σ d (.fn f caps) xs=Ud P m ops N sl0 K ns T σ d f (xs++caps) (.fn f caps::xs):=rfl
def W0 (P:Program) (m:Mode) (ops:Array Oper) (N:List (Nat×List Nat)) (sl0:List Ah) (K:St→Prop) (ns:List Nat) (T:List (Oper×List Nat)) (σ:St) (d:Option Tmp) (op:Op):Prop :=
 match op with
 | .call c=>match c.callee with
   | .value (.func f)=>Ud P m ops N sl0 K ns T σ d f (c.args.toList.map σ.eval) (.fn f []::c.args.toList.map σ.eval)
   | .value v=>TF P m ops N sl0 K ns T σ d (σ.eval v) (c.args.toList.map σ.eval)
   | _=>False
 | _=>False
theorem dX {N:List (Nat×List Nat)} {sl0:List Ah} {ns:List Nat} {T:List (Oper×List Nat)} {o:Oper} {c:Call} {v:Operand} (ho:o.op=.call c) (hc:c.callee=.value v) :
 (∃ z r,Sc P m o σ z r∧Fm sl0 r ns N∧Gb P m ops N sl0 K T (St.put ⟨σ.tmps,r⟩ d z))=TF P m ops N sl0 K ns T σ d (σ.eval v) (c.args.toList.map σ.eval):=by
 apply propext;constructor
 · rintro⟨z,r,⟨h0,v',f,caps,c',ho',hc',hf,ks,π,aa,slc,q,slc',h1,h2,h3,h4,h5,h6,h7,h8,r1,ys,b1,b2,rfl,rfl⟩,hs,hk⟩;rw[ho] at ho'
   cases ho'
   rw[hc] at hc'
   cases hc'
   rw[hf,KA];exact⟨h0,ks,π,aa,slc,q,slc',h1,h2,h3,h4,h5,h6,h7,h8,_,ys,b1,b2,hs,hk⟩
 · intro h
   cases hv:σ.eval v with
   | fn f caps =>
     rw[hv,KA] at h;obtain⟨h0,ks,π,aa,slc,q,slc',h1,h2,h3,h4,h5,h6,h7,h8,r1,ys,b1,b2,hs,hk⟩:=h;exact⟨_,_,⟨h0,v,f,caps,c,ho,hc,hv,ks,π,aa,slc,q,slc',h1,h2,h3,h4,h5,h6,h7,h8,r1,ys,b1,b2,rfl,rfl⟩,hs,hk⟩
   | _=>rw[hv] at h;exact h.elim
theorem Xl {N:List (Nat×List Nat)} {sl0:List Ah} {o:Oper} {ns:List Nat} {T:List (Oper×List Nat)}:Gb P m ops N sl0 K ((o,ns)::T) σ=fS (HV o) (W0 P m ops N sl0 K ns T σ o.dst o.op) (Bh P m ops (oB P m ops N sl0 K ns T) [o] σ):=by
 show (if HV o=true then _ else _)=_
 cases hc:HV o with
 | false=>rfl
 | true =>
   rw[if_pos rfl,Qk];unfold HV at hc;split at hc
   · rename_i c ho;split at hc
     · rename_i v hf;rw[dX ho hf];unfold W0;rw[ho];simp only[hf]
       cases v with
       | func f =>
         show TF P m ops N sl0 K ns T σ o.dst (.fn f []) _=_;rw[KA,List.append_nil]
       | tmp t=>rfl
       | _=>simp[iV] at hc
     · cases hc
   · cases hc
def fW (P:Program) (m:Mode) (ops:Array Oper) (N:List (Nat×List Nat)) (sl0:List Ah) (K:St→Prop) (ns:List Nat) (T:List (Oper×List Nat)) (Tm:List V) (d:Option Tmp) (sl:List Ah) (π:List Nat) (r':Option V) (ys:Option (List Ah)):Prop :=
 ∃ r ys',r'=some r∧ys=some ys'∧Fm sl0 (BW sl π (ys'.take π.length)++ys'.drop π.length) ns N∧Gb P m ops N sl0 K T (St.put ⟨Tm,BW sl π (ys'.take π.length)++ys'.drop π.length⟩ d r)
theorem Wt {N:List (Nat×List Nat)} {sl0:List Ah} {ns:List Nat} {T:List (Oper×List Nat)} {Tm:List V} {sl:List Ah} {π:List Nat} {r:V} {ys:List Ah}:fW P m ops N sl0 K ns T Tm d sl π (some r) (some ys)=(Fm sl0 (BW sl π (ys.take π.length)++ys.drop π.length) ns N∧Gb P m ops N sl0 K T (St.put ⟨Tm,BW sl π (ys.take π.length)++ys.drop π.length⟩ d r)):=by
 apply propext;constructor
 · rintro⟨_,_,h1,h2,h⟩;cases h1;cases h2;exact h
 · exact fun h=>⟨_,_,rfl,rfl,h⟩
theorem Av {n:Nat} {s b:Bool} {ops:Array Oper} (ts:List (Nat×List Nat)) (h:Mh ops ts=true) (h2:JS P ⟨n,s,false,true⟩ ops ts (dU P ⟨n,s,false,true⟩ ops (Q .normal) (K4 ops.toList ts)) (J1 ts 0 ops.toList) [] σ):SO P ⟨n,s,b,true⟩ ops Q σ:=.inl (.inr (.inl ⟨ts,h,h2⟩))
def iP (P:Program) (m:Mode) (ops:Array Oper) (K:St→Prop) (ts:List (Nat×List Nat)) (N:List (Nat×List Nat)) (σ:St):Prop:=N5 P m ops N σ.slots K ts.length ts σ
theorem bG {T:List (Nat×List Nat)} {N:List (Nat×List Nat)} {ts:List V} {sl:List Ah}:iP P m ops K T N ⟨ts,sl⟩=N5 P m ops N sl K T.length T ⟨ts,sl⟩:=rfl
theorem Xj {N T:List (Nat×List Nat)} {sl0:List Ah}:N5 P m ops N sl0 K 0 T σ=K σ:=rfl
def Qh (F:Nat×List Nat→Prop):List (Nat×List Nat)→Prop
 | []=>True
 | p::ps=>F p∧Qh F ps
theorem AE {F:Nat×List Nat→Prop} {p:Nat×List Nat}:Qh F [p]=F p:=by simp[Qh]
theorem AF {F:Nat×List Nat→Prop} {p q:Nat×List Nat} {ps:List (Nat×List Nat)}:Qh F (p::q::ps)=(F p∧Qh F (q::ps)):=rfl
theorem R9 {F:Nat×List Nat→Prop}:∀ {ps:List (Nat×List Nat)},Qh F ps→∀ p∈ps,F p
 | [],_,p,hp=>by cases hp
 | q::ps,h,p,hp=>by
   rcases List.mem_cons.1 hp with rfl|hp
   · exact h.1
   · exact R9 h.2 p hp
theorem BK {N T:List (Nat×List Nat)} {sl0:List Ah} {n:Nat} (ps:List (Nat×List Nat)) (h:T.filter (MV (BD ops.toList) T)=ps) (h2:Qh (fun p=>Gb P m ops N sl0 (N5 P m ops N sl0 K n (T.erase p)) (K4 ops.toList [p]) σ) ps):N5 P m ops N sl0 K (n+1) T σ :=
 fun p hp hr=>R9 h2 p (by rw[←h];exact ABx.2 ⟨hp,hr⟩)
theorem JL {n:Nat} {s b:Bool} {ops:Array Oper} (ts:List (Nat×List Nat)) (h:O5 ops ts=true) (h2:JS P ⟨n,s,false,true⟩ ops ts (iP P ⟨n,s,false,true⟩ ops (Q .normal) ts) (J1 ts 0 ops.toList) [] σ):SO P ⟨n,s,b,true⟩ ops Q σ:=.inl (.inr (.inr ⟨ts,h,h2⟩))
theorem Fe:Bh P m ops K [] σ=K σ:=rfl
theorem Gy {op:Op}:Bh P m ops K (⟨d,op,ty,pos,af,none⟩::rest) σ=Vj P m ⟨d,op,ty,pos,af,none⟩ (Bh P m ops K rest) σ:=rfl
theorem Cy {op:Op} (h:Vj P m ⟨d,op,ty,pos,af,none⟩ (Bh P m ops K rest) σ=∃ x news,(Ho P m.st σ ⟨d,op,ty,pos,af,none⟩=some x∧news=[])∧Bh P m ops K rest (St.put ⟨σ.tmps,σ.slots++news⟩ d x)):Bh P m ops K (⟨d,op,ty,pos,af,none⟩::rest) σ=FK P m ops K rest σ d (Ho P m.st σ ⟨d,op,ty,pos,af,none⟩):=by
 rw[Gy];exact jM h
theorem Ht:Bh P m ops K (⟨d,.move x,ty,pos,af,none⟩::rest) σ=Bh P m ops K rest (σ.put d (evalT P ty σ x)):=(Cy rfl).trans TI
theorem DN:Bh P m ops K (⟨d,.assign x,ty,pos,af,none⟩::rest) σ=Bh P m ops K rest (σ.put d (evalT P ty σ x)):=(Cy rfl).trans TI
def Oc (t a b:V):Option V :=
 match t with
 | .d (.bool t)=>some (JN t a b)
 | _=>none
theorem Hv:Bh P m ops K (⟨d,.pick x y z,ty,pos,af,none⟩::rest) σ=FK P m ops K rest σ d (Oc (σ.eval x) (σ.eval y) (σ.eval z)):=Cy rfl
theorem EZ {op:BinOp}:Bh P m ops K (⟨d,.binOp op t x y s,ty,pos,af,none⟩::rest) σ=FK P m ops K rest σ d (Gd P σ.slots t op (σ.eval x) (σ.eval y)):=Cy rfl
theorem fQ {op:UnOp}:Bh P m ops K (⟨d,.unOp op t x,ty,pos,af,none⟩::rest) σ=FK P m ops K rest σ d (xJ op (σ.eval x)):=Cy rfl
def nQ (P:Program) (s t:TypeId) (x:V):Option V :=
 match P.underlying s,P.underlying t,x with
 | some _,some (.int k),.d (.int _ n)=>some (V.d (.int k (k.wrap n)))
 | _,_,_=>none
theorem VD:Bh P m ops K (⟨d,.convert s t x,ty,pos,af,none⟩::rest) σ=FK P m ops K rest σ d (nQ P s t (σ.eval x)):=Cy rfl
def lY (P:Program) (t:TypeId) (sl:List Ah) (x:V):Option V :=
 match BP P t with
 | some _=>(Ke sl x).map fun (n:Nat)=>V.d (.int .i64 (n:Int))
 | none=>none
theorem Um:Bh P m ops K (⟨d,.call ⟨.builtin .len,#[x],#[t]⟩,ty,pos,af,none⟩::rest) σ=FK P m ops K rest σ d (lY P t σ.slots (σ.eval x)):=Cy rfl
def xB (x y:V):Option V :=
 match [x,y] with
 | [.d (.int k a),.d (.int _ b)]=>some (V.d (.int k (if b > a then b else a)))
 | _=>none
def vJ (x y:V):Option V :=
 match [x,y] with
 | [.d (.int k a),.d (.int _ b)]=>some (V.d (.int k (if b<a then b else a)))
 | _=>none
theorem mP {ts:Array TypeId}:Bh P m ops K (⟨d,.call ⟨.builtin .max,#[x,y],ts⟩,ty,pos,af,none⟩::rest) σ=FK P m ops K rest σ d (xB (σ.eval x) (σ.eval y)):=Cy rfl
theorem mL {ts:Array TypeId}:Bh P m ops K (⟨d,.call ⟨.builtin .min,#[x,y],ts⟩,ty,pos,af,none⟩::rest) σ=FK P m ops K rest σ d (vJ (σ.eval x) (σ.eval y)):=Cy rfl
def AAB (P:Program) (t:TypeId) (sl:List Ah) (x i:V):Option V :=
 match GU i with
 | some n=>Kh P t sl x n
 | none=>none
theorem Q8:Bh P m ops K (⟨d,.indexAddr t x y,ty,pos,af,none⟩::rest) σ=FK P m ops K rest σ d (AAB P t σ.slots (σ.eval x) (σ.eval y)):=Cy rfl
theorem Ip:Bh P m ops K (⟨d,.load t x,ty,pos,af,none⟩::rest) σ=FK P m ops K rest σ d (H0 P m.st t σ.slots (σ.eval x)):=Cy rfl
theorem Ev:Bh P m ops K (⟨d,.fieldAddr t x f,ty,pos,af,none⟩::rest) σ=FK P m ops K rest σ d (CZ P t σ.slots (σ.eval x) f):=Cy rfl
theorem Zx:Bh P m ops K (⟨d,.field t x f,ty,pos,af,none⟩::rest) σ=FK P m ops K rest σ d (PQ P t (σ.eval x) f):=Cy rfl
def AAK (x:V) (i:Nat):Option V :=
 match x with
 | .tup xs=>xs[i]?
 | _=>none
theorem UB:Bh P m ops K (⟨d,.extract x f,ty,pos,af,none⟩::rest) σ=FK P m ops K rest σ d (AAK (σ.eval x) f):=Cy rfl
def AAY (sl:List Ah) (x:V):Option V :=
 match x with
 | .ptr s p=>match sl[s]? with
   | some (.var _ _)=>some (V.ptr s p)
   | _=>none
 | .cptr ds=>some (.cptr ds)
 | _=>none
theorem T5:Bh P m ops K (⟨d,.nilCheck x,ty,pos,af,none⟩::rest) σ=FK P m ops K rest σ d (AAY σ.slots (σ.eval x)):=Cy rfl
def iT (P:Program) (e:TypeId) (z:List V) (ps:List (Nat×V)):Option V:=(EM (fun i=>some (i*P.cellsOf e,P.cellsOf e)) z ps).map .agg
def gV (P:Program) (t:TypeId) (ps:List (Nat×V)):Option V :=
 match P.underlying t,Bj P t with
 | some (.struct _),some z=>(EM (Mt P t) z ps).map .agg
 | some (.array _ e),some z=>iT P e z ps
 | _,_=>none
theorem aD {ps:Array (Nat×Operand)}:Bh P m ops K (⟨d,.build t ps,ty,pos,af,none⟩::rest) σ=FK P m ops K rest σ d (gV P t (ps.toList.map fun p=>(p.1,σ.eval p.2))):=Cy rfl
def nT (P:Program) (m:Mode) (ops:Array Oper) (K:St→Prop) (rest:List Oper) (σ:St) (d:Option Tmp) (t:TypeId) (v:Option (List V)):Prop:=∃ z,v=some z∧Bh P m ops K rest (St.put ⟨σ.tmps,σ.slots++[.var t z]⟩ d (.ptr σ.slots.length 0))
theorem Yr {v:List V}:nT P m ops K rest σ d t (some v)=Bh P m ops K rest (St.put ⟨σ.tmps,σ.slots++[.var t v]⟩ d (.ptr σ.slots.length 0)):=by
 apply propext;constructor
 · rintro⟨x,h,hk⟩;cases h;exact hk
 · exact fun h=>⟨v,rfl,h⟩
theorem bE:Bh P m ops K (⟨d,.alloc t,ty,pos,af,none⟩::rest) σ=nT P m ops K rest σ d t (Bj P t):=by
 rw[Gy];apply propext;constructor
 · rintro⟨x,news,⟨z,h1,rfl,rfl⟩,h2⟩;exact⟨z,h1,h2⟩
 · rintro⟨z,h1,h2⟩;exact⟨_,_,⟨z,h1,rfl,rfl⟩,h2⟩
theorem To:Bh P m ops K (⟨d,.box t x,ty,pos,af,none⟩::rest) σ=((Bg (σ.eval x)).all V.cell=true∧Bh P m ops K rest (St.put ⟨σ.tmps,σ.slots++[.var t (Bg (σ.eval x))]⟩ d (.ptr σ.slots.length 0))):=by
 rw[Gy];apply propext;constructor
 · rintro⟨y,news,⟨h1,rfl,rfl⟩,h2⟩;exact⟨h1,h2⟩
 · rintro⟨h1,h2⟩;exact⟨_,_,⟨h1,rfl,rfl⟩,h2⟩
def FM (P:Program) (m:Mode) (ops:Array Oper) (K:St→Prop) (rest:List Oper) (σ:St) (d:Option Tmp) (r:X):Prop:=Bh P m ops K rest (St.put ⟨σ.tmps,σ.slots++(inst σ.slots.length r).2⟩ d (inst σ.slots.length r).1)
def SF (P:Program) (m:Mode) (ops:Array Oper) (K:St→Prop) (rest:List Oper) (σ:St) (d:Option Tmp) (fn:FuncId) (p:Option (List X)) (xs:List V):Prop :=
 (∃ r,fL P fn p r∧FM P m ops K rest σ d r)∨(YT P m σ.slots fn xs (fun z sl'=>Bh P m ops K rest (St.put ⟨σ.tmps,sl'⟩ d z))∨fO P m σ.slots fn xs fun z sl'=>Bh P m ops K rest (St.put ⟨σ.tmps,sl'⟩ d z))
def Y3 (P:Program) (m:Mode) (ops:Array Oper) (K:St→Prop) (rest:List Oper) (σ:St) (d:Option Tmp) (v:V) (xs:List V):Prop :=
 match v with
 | .fn f caps=>SF P m ops K rest σ d f (Ei σ.slots (xs++caps)) (xs++caps)
 | _=>False
theorem gC {f:FuncId} {caps xs:List V}:Y3 P m ops K rest σ d (.fn f caps) xs=SF P m ops K rest σ d f (Ei σ.slots (xs++caps)) (xs++caps):=rfl
theorem ZC {v:Operand} {args:Array Operand} {ts:Array TypeId}:Bh P m ops K (⟨d,.call ⟨.value v,args,ts⟩,ty,pos,af,none⟩::rest) σ=Y3 P m ops K rest σ d (σ.eval v) (args.toList.map σ.eval):=by
 rw[Gy];unfold Y3 SF FM;show ((∃ x news,AQ P m.st σ.slots.length σ _ x news∧_)∨(match σ.eval v with | .fn f caps=>_|_=>False))=_;unfold AQ;simp only;generalize σ.eval v=g
 cases g with
 | fn f caps =>
   simp only;apply propext;constructor
   · rintro (⟨y,news,⟨r,h1,rfl,rfl⟩,h2⟩|h)
     · exact .inl ⟨r,h1,h2⟩
     · exact .inr h
   · rintro (⟨r,h1,h2⟩|h)
     · exact .inl ⟨_,_,⟨r,h1,rfl,rfl⟩,h2⟩
     · exact .inr h
 | _=>simp
theorem Mo {fn:FuncId} {args:Array Operand} {ts:Array TypeId}:Bh P m ops K (⟨d,.call ⟨.value (.func fn),args,ts⟩,ty,pos,af,none⟩::rest) σ=SF P m ops K rest σ d fn (Ei σ.slots (args.toList.map σ.eval)) (args.toList.map σ.eval):=by
 rw[ZC];show Y3 P m ops K rest σ d (.fn fn []) _=_;rw[gC,List.append_nil]
theorem Ab {fn:FuncId} {xs:List X} {ys:List V} {r:X} (h:Bx P fn xs r) (h2:FM P m ops K rest σ d r):SF P m ops K rest σ d fn (some xs) ys:=.inl ⟨r,wK h,h2⟩
def Xp (sl:List Ah) (ks π:List Nat) (xs args:List V) (slc:List Ah):Prop :=
 BN slc∧ks.Nodup∧Je sl ks∧π.Nodup∧EA true (kill ks sl) π π slc∧HA true (kill ks sl) π (xs.map (KV sl ks)) args
def fI (P:Program) (m:Mode) (ops:Array Oper) (K:St→Prop) (rest:List Oper) (T:List V) (d:Option Tmp) (sl:List Ah) (π:List Nat) (r':Option V) (ys:Option (List Ah)):Prop :=
 ∃ r ys',r'=some r∧ys=some ys'∧Bh P m ops K rest (St.put ⟨T,BW sl π (ys'.take π.length)++ys'.drop π.length⟩ d r)
theorem WP {T:List V} {sl:List Ah} {π:List Nat} {r:V} {ys:List Ah}:fI P m ops K rest T d sl π (some r) (some ys)=Bh P m ops K rest (St.put ⟨T,BW sl π (ys.take π.length)++ys.drop π.length⟩ d r):=by
 apply propext;constructor
 · rintro⟨_,_,h1,h2,h⟩;cases h1;cases h2;exact h
 · exact fun h=>⟨_,_,rfl,rfl,h⟩
theorem Ac {n:Nat} {fn:FuncId} {p:Option (List X)} {xs args:List V} {slc slc':List Ah} {r:V} (h:CG P fn args slc r slc') (ks π:List Nat) (he:Xp σ.slots ks π xs args slc)
 (ha:fI P ⟨n,false,true,dr⟩ ops K rest σ.tmps d (kill ks σ.slots) π (bL (π++List.range' (kill ks σ.slots).length (slc'.length - π.length)) r) (Mc (π++List.range' (kill ks σ.slots).length (slc'.length - π.length)) slc')):SF P ⟨n,false,true,dr⟩ ops K rest σ d fn p xs:=by
 obtain⟨h1,h2,h3,h4,h5,h6⟩:=he;obtain⟨r',ys,k1,k2,k3⟩:=ha;exact .inr (.inl ⟨rfl,rfl,ks,π,args,slc,r,slc',h,h1,h2,h3,h4,h5,h6,r',ys,k1,k2,k3⟩)
theorem Ax {n:Nat} {b:Bool} {N:List (Nat×List Nat)} {sl0:List Ah} {ns:List Nat} {T:List (Oper×List Nat)} {fn:FuncId} {xs near args:List V} {slc slc':List Ah} {r:V} (h:CG P fn args slc r slc') (ks π:List Nat) (he:Xp σ.slots ks π xs args slc) (hn:∀ k∈ks++π,A9 σ.slots near k)
 (ha:fW P ⟨n,false,b,dr⟩ ops N sl0 K ns T σ.tmps d (kill ks σ.slots) π (bL (π++List.range' (kill ks σ.slots).length (slc'.length - π.length)) r) (Mc (π++List.range' (kill ks σ.slots).length (slc'.length - π.length)) slc')):Ud P ⟨n,false,b,dr⟩ ops N sl0 K ns T σ d fn xs near:=by
 obtain⟨h1,h2,h3,h4,h5,h6⟩:=he;obtain⟨r',ys,k1,k2,k3⟩:=ha;exact⟨rfl,ks,π,args,slc,r,slc',h,h1,h2,h3,h4,h5,h6,hn,r',ys,k1,k2,k3⟩
def eT (P:Program) (t:TypeId) (σ:St) (x:V) (lo hi:Option Operand):Option V :=
 match Ke σ.slots x with
 | some n=>Wa P t x (Dn σ lo 0) (Dn σ hi n)
 | none=>none
def Xu (P:Program) (t:TypeId) (σ:St) (s:Nat) (lo hi:Option Operand):Option (V×List Ah) :=
 match Ke σ.slots (.ref s) with
 | some n=>PH P t σ.slots s lo hi (Dn σ lo 0) (Dn σ hi n)
 | none=>none
def fV (P:Program) (m:Mode) (ops:Array Oper) (K:St→Prop) (rest:List Oper) (σ:St) (d:Option Tmp) (v:Option (V×List Ah)):Prop:=m.tc=true∧m.st=false∧∃ z sl',v=some (z,sl')∧Bh P m ops K rest (St.put ⟨σ.tmps,sl'⟩ d z)
theorem XF {z:V} {sl':List Ah}:fV P m ops K rest σ d (some (z,sl'))=(m.tc=true∧m.st=false∧Bh P m ops K rest (St.put ⟨σ.tmps,sl'⟩ d z)):=by
 apply propext;constructor
 · rintro⟨h1,h2,_,_,h,hk⟩;cases h;exact⟨h1,h2,hk⟩
 · exact fun ⟨h1,h2,h⟩=>⟨h1,h2,_,_,rfl,h⟩
def Xy (P:Program) (m:Mode) (ops:Array Oper) (K:St→Prop) (rest:List Oper) (σ:St) (d:Option Tmp) (t:TypeId) (x:V) (lo hi:Option Operand):Prop :=
 match x with
 | .ref s=>fV P m ops K rest σ d (Xu P t σ s lo hi)
 | x=>FK P m ops K rest σ d (eT P t σ x lo hi)
theorem Zr {lo hi:Option Operand}:Bh P m ops K (⟨d,.slice t x lo hi none,ty,pos,af,none⟩::rest) σ=Xy P m ops K rest σ d t (σ.eval x) lo hi:=by
 rw[Gy];unfold Xy
 have quiet:∀ v,σ.eval x=v→(∃ z news,AQ P m.st σ.slots.length σ ⟨d,.slice t x lo hi none,ty,pos,af,none⟩ z news∧Bh P m ops K rest (St.put ⟨σ.tmps,σ.slots++news⟩ d z))=FK P m ops K rest σ d (eT P t σ v lo hi):=by
  rintro v rfl;unfold FK;apply propext;constructor
  · rintro⟨z,news,⟨h1,rfl⟩,h2⟩;rw[List.append_nil] at h2;exact⟨z,h1,h2⟩
  · rintro⟨z,h1,h2⟩;exact⟨z,[],⟨h1,rfl⟩,by rw[List.append_nil];exact h2⟩
 cases hv:σ.eval x with
 | ref s =>
   show (match σ.eval x with | .ref s=>_|_=>_)=_;rw[hv];simp only;unfold fV Xu;apply propext;constructor
   · rintro⟨h1,h2,n,z,sl',h3,h4,h5⟩;refine⟨h1,h2,z,sl',?_,h5⟩;rw[h3];exact h4
   · rintro⟨h1,h2,z,sl',h3,h4⟩;split at h3
     · rename_i n hn;exact⟨h1,h2,n,z,sl',hn,h3,h4⟩
     · cases h3
 | _ =>
   show (match σ.eval x with | .ref s=>_|_=>_)=_;rw[hv];simp only;exact quiet _ hv
def nN (f:FuncId) (first:Array Operand) (caps:List V):Option V:=if first.isEmpty=true then some (.fn f caps) else none
theorem TB {fn:FuncId} {first caps:Array Operand}:Bh P m ops K (⟨d,.makeFunc (.func fn) first caps,ty,pos,af,none⟩::rest) σ=FK P m ops K rest σ d (nN fn first (caps.toList.map σ.eval)):=Cy rfl
def nP (P:Program) (m:Mode) (ops:Array Oper) (K:St→Prop) (rest:List Oper) (σ:St) (d:Option Tmp) (v:Option (List Ah)):Prop:=∃ sl',v=some sl'∧Bh P m ops K rest (St.put ⟨σ.tmps,sl'⟩ d .any)
theorem Xt {v:List Ah}:nP P m ops K rest σ d (some v)=Bh P m ops K rest (St.put ⟨σ.tmps,v⟩ d .any):=by
 apply propext;constructor
 · rintro⟨x,h,hk⟩;cases h;exact hk
 · exact fun h=>⟨v,rfl,h⟩
def nL (P:Program) (m:Mode) (ops:Array Oper) (K:St→Prop) (rest:List Oper) (σ:St) (d:Option Tmp) (t:TypeId) (ok:Bool) (q:Option (Nat×TypeId×List (Ky×Vl))) (k:Option Ky) (z:Option Vl):Prop :=
 ∃ s es ky z',q=some (s,t,es)∧k=some ky∧z=some z'∧FO P t ky∧Bh P m ops K rest (σ.put d (SA ok (Fr es ky) z'))
theorem W1 {ok:Bool} {s:Nat} {t':TypeId} {es:List (Ky×Vl)} {ky:Ky} {z:Vl}:nL P m ops K rest σ d t ok (some (s,t',es)) (some ky) (some z)=(t'=t∧FO P t ky∧Bh P m ops K rest (σ.put d (SA ok (Fr es ky) z))):=by
 apply propext;constructor
 · rintro⟨_,_,_,_,h1,h2,h3,h4,h5⟩;cases h1;cases h2;cases h3;exact⟨rfl,h4,h5⟩
 · rintro⟨rfl,h4,h5⟩;exact⟨_,_,_,_,rfl,rfl,rfl,h4,h5⟩
theorem XS {ok:Bool}:Bh P m ops K (⟨d,.lookup t x y ok,ty,pos,af,none⟩::rest) σ=nL P m ops K rest σ d t ok (Ja σ.slots (σ.eval x)) (OA (σ.eval y)) (Kj P t):=by
 rw[Gy];apply propext;constructor
 · rintro⟨v,news,⟨s,es,ky,z,h1,h2,h3,h4,rfl,rfl⟩,h6⟩;rw[List.append_nil] at h6;exact⟨s,es,ky,z,h1,h2,h3,h4,h6⟩
 · rintro⟨s,es,ky,z,h1,h2,h3,h4,h6⟩;exact⟨_,[],⟨s,es,ky,z,h1,h2,h3,h4,rfl,rfl⟩,by rw[List.append_nil];exact h6⟩
theorem V8:Bh P m ops K (⟨d,.makeMap t none,ty,pos,af,none⟩::rest) σ=Bh P m ops K rest (St.put ⟨σ.tmps,σ.slots++[.blk (.mp t [])]⟩ d (.ref σ.slots.length)):=by
 rw[Gy];apply propext;constructor
 · rintro⟨v,news,⟨rfl,rfl⟩,h6⟩;exact h6
 · exact fun h=>⟨_,_,⟨rfl,rfl⟩,h⟩
def vZ (P:Program) (m:Mode) (ops:Array Oper) (K:St→Prop) (rest:List Oper) (σ:St) (d:Option Tmp) (t:TypeId) (q:Option (Nat×TypeId×List (Ky×Vl))) (k:Option Ky) (v:Option Vl):Prop :=
 m.tc=true∧∃ s es ky v',q=some (s,t,es)∧k=some ky∧v=some v'∧FO P t ky∧Bh P m ops K rest (St.put ⟨σ.tmps,σ.slots.set s (.blk (.mp t (GT es ky v')))⟩ d .any)
theorem ZI {s:Nat} {t':TypeId} {es:List (Ky×Vl)} {ky:Ky} {v:Vl}:vZ P m ops K rest σ d t (some (s,t',es)) (some ky) (some v)=(m.tc=true∧t'=t∧FO P t ky∧Bh P m ops K rest (St.put ⟨σ.tmps,σ.slots.set s (.blk (.mp t (GT es ky v)))⟩ d .any)):=by
 apply propext;constructor
 · rintro⟨h0,_,_,_,_,h1,h2,h3,h4,h5⟩;cases h1;cases h2;cases h3;exact⟨h0,rfl,h4,h5⟩
 · rintro⟨h0,rfl,h4,h5⟩;exact⟨h0,_,_,_,_,rfl,rfl,rfl,h4,h5⟩
theorem Rc:Bh P m ops K (⟨d,.mapUpdate t x y z,ty,pos,af,none⟩::rest) σ=vZ P m ops K rest σ d t (Ja σ.slots (σ.eval x)) (OA (σ.eval y)) (Zz (σ.eval z)):=rfl
theorem ZQ:Bh P m ops K (⟨d,.store t x y,ty,pos,af,none⟩::rest) σ=nP P m ops K rest σ d (Ib P m.st t σ.slots (σ.eval x) (evalT P t σ y)):=rfl
def fR (P:Program) (m:Mode) (ops:Array Oper) (K:St→Prop) (rest:List Oper) (σ:St) (d:Option Tmp) (t:TypeId) (x y:V):Prop:=nO P m σ.slots t x y fun z sl'=>Bh P m ops K rest (St.put ⟨σ.tmps,sl'⟩ d z)
theorem Yh:Bh P m ops K (⟨d,.call ⟨.builtin .append,#[x,y],#[t,t]⟩,ty,pos,af,none⟩::rest) σ=fR P m ops K rest σ d t (evalT P t σ x) (evalT P t σ y):=by
 rw[Gy];show (t=t∧_)=_;simp only[true_and];rfl
def eY (P:Program) (m:Mode) (ops:Array Oper) (K:St→Prop) (rest:List Oper) (σ:St) (d:Option Tmp) (v:Option (V×Ah)):Prop:=∃ x y,v=some (x,y)∧Bh P m ops K rest (St.put ⟨σ.tmps,σ.slots++[y]⟩ d x)
theorem Yt {v:V} {y:Ah}:eY P m ops K rest σ d (some (v,y))=Bh P m ops K rest (St.put ⟨σ.tmps,σ.slots++[y]⟩ d v):=by
 apply propext;constructor
 · rintro⟨x,y,h,hk⟩;cases h;exact hk
 · exact fun h=>⟨v,y,rfl,h⟩
def pT (n:Nat) (e:TypeId) (s len:Nat) (cells:List V):V×Ah :=
 match BV cells with
 | some ds=>(.ref n,.arr e (cells.all Gw) (Ck s len ds))
 | none=>(.lit n len,.var e cells)
def lZ (P:Program) (n:Nat) (t:TypeId) (len:Nat) (ps:List (Nat×V)):Option (V×Ah) :=
 match BP P t with
 | none=>none
 | some e=>match Bj P e with
   | none=>none
   | some z=>if len*z.length≤16777216∧len≤9223372036854775807 then (EM (fun i=>some (i*z.length,z.length)) (List.replicate len z).flatten ps).map (pT n e z.length len) else none
theorem YU {n t len:Nat} {ps:List (Nat×V)}:gG P σ n t len ps=lZ P n t len ps:=by
 unfold gG lZ
 cases he:BP P t with
 | none=>rfl
 | some e =>
   simp only
   cases hz:Bj P e with
   | none=>rfl
   | some z =>
     simp only;split
     · cases hf:EM (fun i=>some (i*z.length,z.length)) (List.replicate len z).flatten ps with
       | none=>rfl
       | some cells=>simp only[Option.map_some,pT];cases BV cells<;>rfl
     · rfl
def TS (P:Program) (b:Bool) (sl:List Ah) (t:TypeId) (len:Nat) (ps:List (Nat×V)):Option (Ah×List Nat) :=
 if b=true then
  match BP P t with
  | none=>none
  | some e=>match Bj P e with
    | none=>none
    | some z=>if len*z.length≤16777216∧len≤9223372036854775807 then (EM (fun i=>some (i*z.length,z.length)) (List.replicate len z).flatten ps).bind (TJ e z.length len sl) else none
 else none
theorem Z8 {b:Bool} {sl:List Ah} {t len:Nat} {ps:List (Nat×V)}:JE P b sl t len ps=TS P b sl t len ps:=by
 unfold JE TS
 cases b with
 | false=>rfl
 | true =>
   simp only[if_true]
   cases he:BP P t with
   | none=>rfl
   | some e =>
     simp only
     cases hz:Bj P e with
     | none=>rfl
     | some z =>
       simp only;split
       · cases hf:EM (fun i=>some (i*z.length,z.length)) (List.replicate len z).flatten ps<;>rfl
       · rfl
def Vk (P:Program) (m:Mode) (ops:Array Oper) (K:St→Prop) (rest:List Oper) (σ:St) (d:Option Tmp) (q:Option (Ah×List Nat)) (v:Option (V×Ah)):Prop :=
 match q with
 | some (y,ks)=>Bh P m ops K rest (St.put ⟨σ.tmps,kill ks σ.slots++[y]⟩ d (.ref σ.slots.length))
 | none=>eY P m ops K rest σ d v
theorem Xx {y:Ah} {ks:List Nat} {v:Option (V×Ah)}:Vk P m ops K rest σ d (some (y,ks)) v=Bh P m ops K rest (St.put ⟨σ.tmps,kill ks σ.slots++[y]⟩ d (.ref σ.slots.length)):=rfl
theorem Yf {v:Option (V×Ah)}:Vk P m ops K rest σ d none v=eY P m ops K rest σ d v:=rfl
@[congr] theorem nU {q q':Option (Ah×List Nat)} {v:Option (V×Ah)} (h:q=q'):Vk P m ops K rest σ d q v=Vk P m ops K rest σ d q' v:=by rw[h]
theorem Qz {ps:Array (Nat×Operand)}:Bh P m ops K (⟨d,.buildSlice t n ps,ty,pos,af,none⟩::rest) σ=Vk P m ops K rest σ d (TS P (m.tc&&!m.st) σ.slots t n (ps.toList.map fun p=>(p.1,σ.eval p.2))) (lZ P σ.slots.length t n (ps.toList.map fun p=>(p.1,σ.eval p.2))):=by
 rw[Gy];unfold Vj;simp only;rw[Z8];split
 · rename_i hq;rw[hq];rfl
 · rename_i hq;rw[hq];apply propext;constructor
   · rintro⟨x,news,⟨y,h1,rfl⟩,h2⟩;exact⟨x,y,YU (σ:=σ)▸h1,h2⟩
   · rintro⟨x,y,h1,h2⟩;exact⟨_,_,⟨y,by rw[YU];exact h1,rfl⟩,h2⟩
def YF (P:Program) (t:TypeId) (x y:V):Option (Int×Int×TypeId×List D) :=
 match BP P t,GU x,GU y with
 | some e,some m,some m'=>match Bj P e with
   | some z=>match BV z with
     | some zd=>if z.all Gw=true∧P.bytesOf e≤128 then some (m,m',e,zd) else none
     | none=>none
   | none=>none
 | _,_,_=>none
def nX (P:Program) (m:Mode) (ops:Array Oper) (K:St→Prop) (rest:List Oper) (σ:St) (d:Option Tmp) (v:Option (Int×Int×TypeId×List D)):Prop:=∃ q e zd,v=some (q,q,e,zd)∧(0≤q∧q≤1099511627776)∧Bh P m ops K rest (St.put ⟨σ.tmps,σ.slots++[.arr e true (List.replicate q.toNat zd)]⟩ d (.ref σ.slots.length))
theorem X1 {q:Int} {e:TypeId} {zd:List D}:nX P m ops K rest σ d (some (q,q,e,zd))=((0≤q∧q≤1099511627776)∧Bh P m ops K rest (St.put ⟨σ.tmps,σ.slots++[.arr e true (List.replicate q.toNat zd)]⟩ d (.ref σ.slots.length))):=by
 apply propext;constructor
 · rintro⟨q,e,zd,h,hk⟩;cases h;exact hk
 · exact fun h=>⟨q,e,zd,rfl,h⟩
theorem Rm:Bh P m ops K (⟨d,.makeSlice t x y,ty,pos,af,none⟩::rest) σ=nX P m ops K rest σ d (YF P t (σ.eval x) (σ.eval y)):=by
 rw[Gy];apply propext;constructor
 · rintro⟨x,news,⟨e,z,zd,q,h1,h2,h3,h4,h5,h6,h7,h8,h9,rfl,rfl⟩,h10⟩;refine⟨q,e,zd,?_,⟨h7,h8⟩,h10⟩;unfold YF;rw[h1,h5,h6];simp only[h2,h3];rw[if_pos ⟨h4,h9⟩]
 · rintro⟨q,e,zd,h,⟨h7,h8⟩,h10⟩;unfold YF at h;split at h
   · rename_i e' m1 m2 h1 h5 h6;split at h
     · rename_i z h2;split at h
       · rename_i zd' h3;split at h
         · rename_i h4
           cases h
           exact⟨_,_,⟨e,z,zd,q,h1,h2,h3,h4.1,h5,h6,h7,h8,h4.2,rfl,rfl⟩,h10⟩
         · cases h
       · cases h
     · cases h
   · cases h
def Qn (P:Program) (m:Mode) (ops:Array Oper) (K:St→Prop) (o:Oper) (rest:List Oper) (σ:St) (dj:Nat) (b:Bool) (v:V):Prop :=
 match v with
 | .d (.bool t)=>Kb (t==b) (Bh P m ops K (o::rest) (σ.put (some dj) (.d (.bool b)))) (Bh P m ops K rest ((σ.put (some dj) (.d (.bool (!b)))).put o.dst (.tup [])))
 | .tup []=>Bh P m ops K rest (σ.put o.dst (.tup []))
 | _=>False
theorem EK {o:Oper} {dj:Nat} {b t:Bool}:Qn P m ops K o rest σ dj b (.d (.bool t))=U7 (t==b) (Bh P m ops K (o::rest) (σ.put (some dj) (.d (.bool b)))) (Bh P m ops K rest ((σ.put (some dj) (.d (.bool (!b)))).put o.dst (.tup []))):=rfl
theorem TV {o:Oper} {dj:Nat} {b:Bool}:Qn P m ops K o rest σ dj b (.tup [])=Bh P m ops K rest (σ.put o.dst (.tup [])):=rfl
def Yp (P:Program) (m:Mode) (ops:Array Oper) (K:St→Prop) (o:Oper) (rest:List Oper) (σ:St) (b:Bool) (dj:Option Nat):Prop :=
 match dj with
 | some d=>Qn P m ops K o rest σ d b (σ.get d)
 | none=>False
theorem ER {o:Oper} {dj:Nat} {b:Bool}:Yp P m ops K o rest σ b (some dj)=Qn P m ops K o rest σ dj b (σ.get dj):=rfl
theorem Gh {op:Op} {j:Nat} {b:Bool}:Bh P m ops K (⟨d,op,ty,pos,af,some (j,b)⟩::rest) σ=Yp P m ops K ⟨d,op,ty,pos,af,none⟩ rest σ b ((ops[j]?).bind (·.dst)):=by
 have e:∀ σ',Bh P m ops K (⟨d,op,ty,pos,af,none⟩::rest) σ'=Vj P m ⟨d,op,ty,pos,af,some (j,b)⟩ (Bh P m ops K rest) σ':=fun σ'=>rfl;unfold Yp
 conv=>lhs;unfold Bh
 simp only
 cases hd:(ops[j]?).bind (·.dst) with
 | none=>rfl
 | some dj =>
   simp only;unfold Qn
   cases hv:σ.get dj with
   | d x=>cases x with
     | bool t =>
       simp only[Kb,e]
       cases t<;>cases b<;>simp
     | _=>rfl
   | tup xs=>cases xs<;>rfl
   | _=>rfl
end
def Wb {ι:Type} (m:Mode) (I:ι→Prop) (S:ι→St) (μ:ι→Nat) (i:ι) (σ':St):Prop:=∃ j,I j∧μ j<μ i∧Le m σ' (S j)
theorem lV {c:Code} {ι:Type} (I:ι→Prop) (S:ι→St) (μ:ι→Nat) (i0:ι) (h0:I i0) (hle:Le m σ (S i0)) (hr:∀ i,I i→Ii P m c (GH (Wb m I S μ i) Q) (S i)):Ii P m (.loop c) Q σ :=
 ⟨ι,I,S,μ,i0,h0,hle,hr⟩
end
def frame (n:Nat) (l:List (Nat×V)):List V:=l.foldl (fun T p=>T.set p.1 p.2) (List.replicate n .any)
theorem Ad {x:Int} (h1:-9223372036854775808≤x) (h2:x≤9223372036854775807):IntKind.i64.wrap x=x:=by rw[IntKind.wrap_i64];omega
theorem mH (k:Nat):((k:Int)<0)=False:=by
 apply propext;constructor
 · intro h;omega
 · exact False.elim
def DM (n lo hi:Int):Bool:=decide (lo≤n)&&decide (n≤hi)
theorem Ba {α:Type} {xs:List α} {k:Nat} {x:α} (hx:xs[k]? = some x):xs.take (k+1)=xs.take k++[x]:=by
 obtain⟨hk,rfl⟩:=zz1.1 hx;exact List.take_succ_eq_append_getElem hk
theorem C6 {α:Type} {xs:List α} {p:α→Bool} {k:Nat} {x:α} (hx:xs[k]? = some x):(xs.take (k+1)).all p=((xs.take k).all p&&p x):=by
 rw[Ba hx];simp
theorem EO {α:Type} {xs:List α} {p:α→Bool} {k:Nat} {x:α} (hx:xs[k]? = some x) (h:p x=false):xs.all p=false:=by
 rw[Bool.eq_false_iff,ne_eq,zz8];intro hh;have:=hh x (zz6 hx);rw[h] at this
 cases this
theorem UL {P:Program} {m:Mode} {Q:Exit→St→Prop} {σ:St} {c:Code} {ι:Type} (I:ι→Prop) (S:ι→St) (μ:ι→Nat) (i0:ι) (h0:I i0) (hle:Le m σ (S i0))
 (hr:∀ (I':ι→Prop) (S':ι→St) (μ':ι→Nat),(∀ i,I' i↔I i)→(∀ i,S' i=S i)→(∀ i,μ' i=μ i)→∀ i,I i→Ii P m c (GH (Wb m I' S' μ' i) Q) (S i)):Ii P m (.loop c) Q σ :=
 lV I S μ i0 h0 hle fun i hi=>hr I S μ (fun _=>Iff.rfl) (fun _=>rfl) (fun _=>rfl) i hi
theorem Ae {m:Mode} {ι:Type} {I I':ι→Prop} {S S':ι→St} {μ μ':ι→Nat} {i:ι} {σ':St} (hI:∀ i,I' i↔I i) (hS:∀ i,S' i=S i) (hμ:∀ i,μ' i=μ i) (j:ι) (h1:I j) (h2:μ j<μ i) (h3:Le m σ' (S j)):Wb m I' S' μ' i σ' :=
 ⟨j,(hI j).2 h1,by rw[hμ,hμ];exact h2,by rw[hS];exact h3⟩
def Jn:List Bool→List V→List V
 | true::ms,x::xs=>x::Jn ms xs
 | false::ms,_::xs=>.any::Jn ms xs
 | [],_::xs=>.any::Jn [] xs
 | _,[]=>[]
def sets {α:Type} (xs:List α):List (Nat×α)→List α
 | []=>xs
 | p::ps=>sets (xs.set p.1 p.2) ps
theorem AB {P:Program} {m:Mode} {Q:Exit→St→Prop} {c:Code} {T:List V} {sl0:List Ah} {ι:Type} (mask:List Bool) (I:ι→Prop) (upd:ι→List (Nat×V)) (usl:ι→List (Nat×Ah)) (μ:ι→Nat) (i0:ι) (h0:I i0)
 (hle:Le m ⟨T,sl0⟩ ⟨sets (Jn mask T) (upd i0),sets sl0 (usl i0)⟩)
 (hr:∀ (I':ι→Prop) (S':ι→St) (μ':ι→Nat),(∀ i,I' i↔I i)→(∀ i,S' i=⟨sets (Jn mask T) (upd i),sets sl0 (usl i)⟩)→(∀ i,μ' i=μ i)→∀ i,I i→Ii P m c (GH (Wb m I' S' μ' i) Q) ⟨sets (Jn mask T) (upd i),sets sl0 (usl i)⟩):Ii P m (.loop c) Q ⟨T,sl0⟩ :=
 UL I (fun i=>⟨sets (Jn mask T) (upd i),sets sl0 (usl i)⟩) μ i0 h0 hle hr
def Dm (a b:Int):Int:=a.fdiv (2 ^ min b.toNat 64)
def EC (a b:Int):Int:=IntKind.i64.wrap (a*2 ^ min b.toNat 64)
def CR (a b:Int):Int:=IntKind.i64.wrap (BitVec.ofInt 64 a &&& BitVec.ofInt 64 b).toNat
def XR (a b:Int):Int:=IntKind.i64.wrap (BitVec.ofInt 64 a ||| BitVec.ofInt 64 b).toNat
def Bl (a b:Int):Int:=IntKind.i64.wrap (BitVec.ofInt 64 a ^^^ BitVec.ofInt 64 b).toNat
def Fp (a b:Int):Int:=IntKind.i64.wrap (BitVec.ofInt 64 a &&& ~~~BitVec.ofInt 64 b).toNat
section
variable {P:Program} {t:TypeId} {k k':IntKind} {a b:Int} {x y:Bool}
theorem dJ:DA P t .add (.d (.int k a)) (.d (.int k b))=some (.d (.int k (k.wrap (a+b)))):=by simp[DA]
theorem V4:DA P t .sub (.d (.int k a)) (.d (.int k b))=some (.d (.int k (k.wrap (a - b)))):=by simp[DA]
theorem gU:DA P t .mul (.d (.int k a)) (.d (.int k b))=some (.d (.int k (k.wrap (a*b)))):=by simp[DA]
theorem gM:DA P t .quo (.d (.int k a)) (.d (.int k b))=if b=0 then none else some (.d (.int k (k.wrap (a.tdiv b)))):=by simp[DA]
theorem fF:DA P t .rem (.d (.int k a)) (.d (.int k b))=if b=0 then none else some (.d (.int k (a.tmod b))):=by simp[DA]
theorem eN:DA P t .and (.d (.int .i64 a)) (.d (.int .i64 b))=some (.d (.int .i64 (CR a b))):=rfl
theorem lP:DA P t .or (.d (.int .i64 a)) (.d (.int .i64 b))=some (.d (.int .i64 (XR a b))):=rfl
theorem jT:DA P t .xor (.d (.int .i64 a)) (.d (.int .i64 b))=some (.d (.int .i64 (Bl a b))):=rfl
theorem UA:DA P t .andNot (.d (.int .i64 a)) (.d (.int .i64 b))=some (.d (.int .i64 (Fp a b))):=rfl
theorem Wv:DA P t .shl (.d (.int .i64 a)) (.d (.int k b))=if 0≤b then some (.d (.int .i64 (EC a b))) else none:=by simp[DA,EC,IntKind.bits]
theorem iQ:DA P t .shr (.d (.int .i64 a)) (.d (.int k b))=if 0≤b then some (.d (.int .i64 (Dm a b))) else none:=by simp[DA,Dm,IntKind.bits]
theorem S6:DA P t .shl (.d (.int .u64 a)) (.d (.int k b))=if 0≤b then some (.d (.int .u64 (IntKind.u64.wrap (a*2 ^ min b.toNat 64)))) else none:=by simp[DA,IntKind.bits]
theorem MA:DA P t .eql (.d (.int k a)) (.d (.int k b))=some (.d (.bool (a==b))):=by simp[DA]
theorem mK {sl:List Ah} {op:BinOp} {x:V} {y:D}:Gd P sl t op x (.d y)=DA P t op x (.d y):=rfl
theorem cE {sl:List Ah} {op:BinOp} {x:V} {ys:List V}:Gd P sl t op x (.agg ys)=DA P t op x (.agg ys):=rfl
theorem iC {a c:Int} {b d:Bool} (h:VC P t=true):DA P t .eql (.agg [.d (.int .i64 a),.d (.bool b)]) (.agg [.d (.int .i64 c),.d (.bool d)])=some (.d (.bool (a==c&&b==d))):=by simp[DA,h]
theorem gK {a b c d:Int} (h:JY P t=true):DA P t .eql (.agg [.d (.int .i64 a),.d (.int .i64 b)]) (.agg [.d (.int .i64 c),.d (.int .i64 d)])=some (.d (.bool (a==c&&b==d))):=by simp[DA,h]
theorem iB:DA P t .neq (.d (.int k a)) (.d (.int k b))=some (.d (.bool (a != b))):=by simp[DA]
theorem gY:DA P t .lss (.d (.int k a)) (.d (.int k b))=some (.d (.bool (decide (a<b)))):=by simp[DA]
theorem LE:DA P t .leq (.d (.int k a)) (.d (.int k b))=some (.d (.bool (decide (a≤b)))):=by simp[DA]
theorem dT:DA P t .gtr (.d (.int k a)) (.d (.int k b))=some (.d (.bool (decide (a > b)))):=by simp[DA]
theorem Mz:DA P t .geq (.d (.int k a)) (.d (.int k b))=some (.d (.bool (decide (a≥b)))):=by simp[DA]
theorem bD (h:P.underlying t=some .bool):DA P t .eql (.d (.bool x)) (.d (.bool y))=some (.d (.bool (x==y))):=by simp[DA,h]
theorem ZM (h:P.underlying t=some .bool):DA P t .neq (.d (.bool x)) (.d (.bool y))=some (.d (.bool (!(x==y)))):=by simp[DA,h]
end
section
variable {P:Program} {m:Mode} {ops:Array Oper} {K:St→Prop} {rest:List Oper} {σ:St} {d:Option Tmp} {t e:TypeId} {dr:Bool}
theorem ZL {sl:List Ah} {x y:V} {K:V→List Ah→Prop} {ow:Bool} {es es2:List (List D)} {ks:List Nat} {o:Option Nat} (he:BP P t=some e) (hb:HY sl e x=some (ow,es,ks)) (hz:(Bj P e).isSome=true∧P.cellsOf e≠0∧P.bytesOf e≤128)
 (hs:QU sl y=some (es2,o)) (ho:∀ s,o=some s→s∉ks) (hc:∀ c∈es2,c.length=P.cellsOf e) (hl:es.length+es2.length≤1099511627776) (hf:ow=true→AR es2) (hK:K (.ref sl.length) (kill ks sl++[.arr e ow (es++es2)])):Mu P sl t x y K :=
 ⟨e,ow,es,ks,he,hb,hz.1,hz.2.1,hz.2.2,.inl ⟨es2,o,hs,ho,hc,hl,hf,hK⟩⟩
theorem Ak {x y:V} {ow:Bool} {es es2:List (List D)} {ks:List Nat} {o:Option Nat} {n:Nat} {b:Bool} (he:BP P t=some e) (hb:HY σ.slots e x=some (ow,es,ks)) (hz:(Bj P e).isSome=true∧P.cellsOf e≠0∧P.bytesOf e≤128)
 (hs:QU σ.slots y=some (es2,o)) (ho:∀ s,o=some s→s∉ks) (hc:∀ c∈es2,c.length=P.cellsOf e) (hl:es.length+es2.length≤1099511627776) (hf:ow=true→AR es2)
 (hK:Bh P ⟨n,false,b,dr⟩ ops K rest (St.put ⟨σ.tmps,kill ks σ.slots++[.arr e ow (es++es2)]⟩ d (.ref σ.slots.length))):fR P ⟨n,false,b,dr⟩ ops K rest σ d t x y :=
 .inl ⟨rfl,.inl (ZL he hb hz hs ho hc hl hf hK)⟩
theorem Bs {x:V} {es:List (List D)} {ks:List Nat} {n:Nat} {b:Bool} {s2 q:Nat} {cells:List V} {ds:List D} {ks2:List Nat} (he:BP P t=some e) (hb:HY σ.slots e x=some (true,es,ks)) (hz:(Bj P e).isSome=true∧P.cellsOf e≠0∧P.bytesOf e≤128)
 (hs:σ.slots[s2]? = some (.var e cells)) (ht:CK σ.slots cells=some (ds,ks2)) (hd:∀ k∈ks2,k∉ks) (hc:cells.length=q*P.cellsOf e) (hl:es.length+q≤1099511627776)
 (hK:Bh P ⟨n,false,b,dr⟩ ops K rest (St.put ⟨σ.tmps,kill (s2::(ks++ks2)) σ.slots++[.arr e true (es++Ck (P.cellsOf e) q ds)]⟩ d (.ref σ.slots.length))):fR P ⟨n,false,b,dr⟩ ops K rest σ d t x (.lit s2 q) :=
 .inl ⟨rfl,.inl ⟨e,true,es,ks,he,hb,hz.1,hz.2.1,hz.2.2,.inr (.inr (.inl ⟨s2,q,cells,ds,ks2,rfl,hs,ht,hd,hc,rfl,hl,hK⟩))⟩⟩
theorem Br {x:V} {es es2:List (List D)} {ks:List Nat} {n:Nat} {b:Bool} {s2:Nat} (he:BP P t=some e) (hb:HY σ.slots e x=some (true,es,ks)) (hz:(Bj P e).isSome=true∧P.cellsOf e≠0∧P.bytesOf e≤128)
 (hs:σ.slots[s2]? = some (.arr e true es2)) (hd:s2∉ks) (hl:es.length+es2.length≤1099511627776)
 (hK:Bh P ⟨n,false,b,dr⟩ ops K rest (St.put ⟨σ.tmps,kill (s2::ks) σ.slots++[.arr e true (es++es2)]⟩ d (.ref σ.slots.length))):fR P ⟨n,false,b,dr⟩ ops K rest σ d t x (.ref s2) :=
 .inl ⟨rfl,.inl ⟨e,true,es,ks,he,hb,hz.1,hz.2.1,hz.2.2,.inr (.inl ⟨s2,es2,rfl,hs,hd,rfl,hl,hK⟩)⟩⟩
theorem Ek {x y:V} {ow:Bool} {es es2:List (List D)} {ks ks2:List Nat} {n:Nat} {b:Bool} {t':TypeId} (hfz:HR P σ.slots y=some (.sl t' es2,ks2)) (he:BP P t=some e) (hb:HY (kill ks2 σ.slots) e x=some (ow,es,ks)) (hz:(Bj P e).isSome=true∧P.cellsOf e≠0∧P.bytesOf e≤128)
 (hc:∀ c∈es2,c.length=P.cellsOf e) (hl:es.length+es2.length≤1099511627776)
 (hK:Bh P ⟨n,false,b,dr⟩ ops K rest (St.put ⟨σ.tmps,kill ks (kill ks2 σ.slots)++[.arr e false (es++es2)]⟩ d (.ref (kill ks2 σ.slots).length))):fR P ⟨n,false,b,dr⟩ ops K rest σ d t x y :=
 .inl ⟨rfl,.inr ⟨_,ks2,hfz,e,ow,es,ks,he,hb,hz.1,hz.2.1,hz.2.2,.inr (.inr (.inr ⟨es2,none,rfl,by simp,hc,hl,hK⟩))⟩⟩
end
inductive Uu:D→Prop
 | int (k:IntKind) (x:Int) (h:(Lit.int k x).wf=true):Uu (.int k x)
 | bool (b:Bool):Uu (.bool b)
 | sl (t:TypeId) (es:List (List D)) (h:∀ e∈es,∀ d∈e,Uu d):Uu (.sl t es)
theorem Uu.i64 {x:Int} (h:Uu (.int .i64 x)):-9223372036854775808≤x∧x≤9223372036854775807:=by
 cases h with
 | int _ _ h =>
   have h2:(decide (IntKind.i64.min≤x)&&decide (x≤IntKind.i64.max))=true:=h;have a:IntKind.i64.min=-9223372036854775808:=by decide
   have b:IntKind.i64.max=9223372036854775807:=by decide
   rw[a,b] at h2;simpa using h2
def rW {α:Type} (P:Program) (en:α→D) (t:TypeId):Prop :=
 ∀ {H:Type} {enc:TypeId×Value→H} {W:World} {B fuel:Nat} {cs:List Value} {x:DataW H×List MemPlace},
   DataW.trod enc P W 0 (fun _=>true) true fuel t cs=some x→(∀ p∈x.2,p.block<B)→∃ (d:α) (v:Value),cs=[v]∧Rd W (·<B) (en d) v∧Uu (en d)
def OpE {α:Type} (P:Program) (en:α→List D) (t:TypeId):Prop :=
 ∀ {H:Type} {enc:TypeId×Value→H} {W:World} {B fuel:Nat} {cs:List Value} {x:DataW H×List MemPlace},
   DataW.trod enc P W 0 (fun _=>true) true fuel t cs=some x→(∀ p∈x.2,p.block<B)→∃ d:α,Rds W (·<B) (en d) cs []∧∀ q∈en d,Uu q
def AC (x:Int):D:=.int .i64 x
def CQ (x:Bool):D:=.bool x
def Dh {α:Type} (e:TypeId) (en:α→List D) (xs:List α):D:=.sl e (xs.map en)
def e1 {α:Type} (en:α→D) (x:α):List D:=[en x]
def e2 {α β:Type} (a:α→D) (b:β→D) (x:α×β):List D:=[a x.1,b x.2]
def e3 {α β γ:Type} (a:α→D) (b:β→D) (c:γ→D) (x:α×β×γ):List D:=[a x.1,b x.2.1,c x.2.2]
def e4 {α β γ δ:Type} (a:α→D) (b:β→D) (c:γ→D) (d:δ→D) (x:α×β×γ×δ):List D:=[a x.1,b x.2.1,c x.2.2.1,d x.2.2.2]
section
variable {P:Program} {t:TypeId}
theorem uR {α:Type} {en:α→D} (h:rW P en t):OpE P (e1 en) t:=fun h1 h2=>by
 obtain⟨d,v,rfl,hr,ho⟩:=h h1 h2;refine⟨d,⟨rfl,rfl,fun i x hx=>?_⟩,by simpa [e1] using ho⟩
 match i with
 | 0=>simp[e1] at hx;subst hx;exact⟨v,rfl,hr⟩
 | i+1=>simp[e1] at hx
theorem XG {w:World} {a:Addr} {u:Value} (h:w.cell? a=some u):a.spot=none:=by
 unfold World.cell? at h;split at h
 · split at h
   · cases h
   · rename_i hs
     cases hp:a.spot with
     | none=>rfl
     | some q=>rw[hp] at hs;simp at hs
 · cases h
theorem pC {α:Type} {en:α→List D} {e:TypeId} (ht:P.underlying t=some (.slice e)) (hpos:0<P.cellsOf e) (hE:∀ x,(en x).length=P.cellsOf e) (hT:OpE P en e):rW P (Dh e en) t:=by
 intro H enc W B fuel cs x h hlt;rcases open_slice ht h with ⟨rfl,rfl⟩|⟨a,len,cap,m,n,D,Pl,rfl,hb,hl,hm,hmm,hx,hi⟩
 · exact⟨[],_,rfl,.nil _ _ _,.sl _ _ (by simp)⟩
 · have hm':m=cap:=hmm;subst hm';have hlen63:len≤9223372036854775807:=by simp only[maxLen] at hm;omega
   have hpl:∀ i,i<m→∀ p∈Pl i,p.block<B:=by
    intro i him p hp;refine hlt p ?_;rw[hx];simp only[ACB,List.mem_flatMap,ABw];exact .inr ⟨i,him,hp⟩
   have helem:∀ i,i<len→∃ y:α×List Value,W.cells? 0 (a.add (i*P.cellsOf e)) (P.cellsOf e)=some y.2∧Rds W (·<B) (en y.1) y.2 []∧∀ q∈en y.1,Uu q:=by
    intro i hil;obtain⟨cs',hc,ht'⟩:=hi i (by omega);obtain⟨d,hd⟩:=hT ht' (fun p hp=>hpl i (by omega) p hp);exact⟨(d,cs'),hc,hd⟩
   by_cases h0:len=0
   · subst h0;exact⟨[],_,rfl,.nil _ _ _,.sl _ _ (by simp)⟩
   have hn':0<len:=by omega
   obtain⟨y0,hy0⟩:=helem 0 hn'
   have hall:∀ i,∃ y:α×List Value,i<len→W.cells? 0 (a.add (i*P.cellsOf e)) (P.cellsOf e)=some y.2∧Rds W (·<B) (en y.1) y.2 []∧∀ q∈en y.1,Uu q:=by
    intro i;by_cases hil:i<len
    · obtain⟨y,hy⟩:=helem i hil;exact⟨y,fun _=>hy⟩
    · exact⟨y0,fun h=>absurd h hil⟩
   obtain⟨f,hf⟩:=Classical.skolem.1 hall
   have hblk:a.block<B:=by
    have:MemPlace.cell a.block a.off∈x.2:=by
     rw[hx];simp only[ACB];left;rw[MemPlace.row];simp only[ABc,ABw];exact⟨0,Nat.mul_pos (by omega) hpos,by simp⟩
    exact hlt _ this
   have hspot:a.spot=none:=by
    obtain⟨_,hcl,hat⟩:=World.cells?_some hy0.1;have h0:=hat 0 hpos;have hcl':0<y0.2.length:=by rw[hcl];exact hpos
    rw[zz0 hcl'] at h0;have:=XG h0;simpa [Addr.add] using this
   obtain⟨b,o,sp⟩:=a;simp only at hspot;subst hspot
   have hr:=Rd.sl (w:=W) (G:=(·<B)) e ((List.range len).map fun i=>en (f i).1) b o m (P.cellsOf e) (fun i j=>((f i).2[j]?).getD (.bool false)) (by simpa using hlen63) (by simpa using hl) hblk
    (fun x hx=>by simp only[ABc,ABw] at hx;obtain⟨i,_,rfl⟩:=hx;exact hE _)
    (fun i y j d hy hd=>by
      rw[ABz,Option.map_eq_some_iff] at hy;obtain⟨i',hi',rfl⟩:=hy
      have hil:i<len:=by
       have:=(zz1.1 hi').1;simpa using this
      rw[ABi hil] at hi';obtain rfl:=ABd hi';obtain⟨h1,h2,h3⟩:=hf i hil;obtain⟨_,hcl,hat⟩:=World.cells?_some h1;have hj:j<P.cellsOf e:=by rw[←hE (f i).1];exact (zz1.1 hd).1
      have:=hat j hj;have hj2:j<(f i).2.length:=by rw[hcl];exact hj
      rw[zz0 hj2] at this ⊢
      have ee:((⟨b,o,none⟩:Addr).add (i*P.cellsOf e)).add j=⟨b,o+i*P.cellsOf e+j,none⟩:=by
       rw[Go.Deep.add_add];unfold Addr.add;split
       · rename_i h0;rw[Nat.add_assoc,h0,Nat.add_zero]
       · rw[Nat.add_assoc]
      rw[ee] at this
      simpa using this)
    (fun i y j d hy hd=>by
      rw[ABz,Option.map_eq_some_iff] at hy;obtain⟨i',hi',rfl⟩:=hy
      have hil:i<len:=by
       have:=(zz1.1 hi').1;simpa using this
      rw[ABi hil] at hi';obtain rfl:=ABd hi';obtain⟨h1,h2,h3⟩:=hf i hil;obtain⟨v,hv,hr⟩:=h2.2.2 j d hd;rw[hv]
      exact hr)
   refine⟨(List.range len).map fun i=>(f i).1,_,rfl,?_⟩;have el:((List.range len).map fun i=>en (f i).1).length=len:=by simp
   rw[el] at hr;have em:Dh e en ((List.range len).map fun i=>(f i).1)=.sl e ((List.range len).map fun i=>en (f i).1):=by simp[Dh,Function.comp_def]
   rw[em];refine⟨hr,.sl _ _ fun e he q hq=>?_⟩;simp only[ABc,ABw] at he;obtain⟨i,hi,rfl⟩:=he;exact (hf i hi).2.2 q hq
section
variable {α:Type} {H:Type} {enc:TypeId×Value→H} {W:World} {base:Nat} {v:Value} {d:DataW H} {p:List MemPlace}
theorem eW {en:α→D} {e:TypeId} (ht:P.underlying t=some (.slice e)) (hO:rW P en t) (hv:Value.okWide P W .any base t v) (h:DataW.Trod enc P W 0 (fun _=>true) true t v d p) (hlt:∀ x∈p,x.block<W.heap.size):∃ x:α,Rd W (·<W.heap.size) (en x) v∧Uu (en x):=by
 obtain⟨a0,len,cap,rfl⟩:=okWide_slice ht hv;obtain⟨fuel,hf⟩:=h;obtain⟨x,v,e1,h2⟩:=hO hf hlt;have e1':[Value.slice a0 len cap]=[v]:=e1
 cases e1'
 exact⟨x,h2⟩
theorem fY {en:α→D} {e:TypeId} (ht:P.underlying t=some (.slice e)) (hO:rW P en t) (hv:Value.okWide P W .any base t v) (h:DataW.Trod enc P W 0 (fun _=>true) true t v d p) (hlt:∀ x∈p,x.block<W.heap.size):∃ x:α,Rd W (·<W.heap.size) (en x) v:=by
 obtain⟨x,h,_⟩:=eW ht hO hv h hlt;exact⟨x,h⟩
end
theorem mF {f:FuncId} {xs:List X} (h:Bx P f xs (.d (.bool true))) {w:World} {vs:Array Value} (hl:vs.size=xs.length) (hr:∀ (i:Nat) (x:X) (v:Value),xs[i]? = some x→vs[i]? = some v→kU w (·<w.heap.size) x v) :
 Calls P f vs w fun e w'=>e=.returned (.bool true)∧Below w.heap.size w w':=by
 refine (h.2 w vs.toList (by simpa using hl) (fun i x v hx hv=>hr i x v hx (by simpa using hv))).mono ?_;rintro e w' ⟨v,F,rfl,hres,-,-,hb⟩;refine⟨?_,hb⟩
 cases hres with
 | one hx=>cases hx with
   | d ho =>
     obtain⟨v',hv',hr'⟩:=ho.rd (G:=fun _=>True) (fun _ _=>trivial) 0 _ rfl;simp at hv';subst hv'
     cases hr'
     rfl
end
end Go.Proofs.YtnjedabjbeipeaaGreat
