/-
  Facts on the program's types, for abstract walks.
  Conditions: none.
-/
import Derived.Test.YtnjedabjbeipeaaGreatV4
namespace Go.Proofs.YtnjedabjbeipeaaGreat
open Go.RowKit Go.ChangeShapes Go.WideShapes Go.ChangeAt Go.Deep Go.Joins
set_option linter.unusedSimpArgs false
set_option linter.unusedVariables false
set_option maxRecDepth 100000
set_option maxHeartbeats 10000000
@[simp] theorem ABZ:(Tryz.prog.underlying 2).isSome=true:=by kernel_rfl
@[simp] theorem ABq:Dl Tryz.prog 2=false:=by kernel_rfl
@[simp] theorem ABg:Tryz.prog.cellsOf 2=1:=by kernel_rfl
@[simp] theorem ABy:Tryz.prog.bytesOf 2=8:=by kernel_rfl
@[simp] theorem ABc:Bn Tryz.prog 2=some [.d (.int .i64 0)]:=by kernel_rfl
@[simp] theorem ABr:Tryz.prog.underlying 2=some (.int .i64):=by kernel_rfl
@[simp] theorem ABM:(Tryz.prog.underlying 3).isSome=true:=by kernel_rfl
@[simp] theorem ABH:Dl Tryz.prog 3=false:=by kernel_rfl
@[simp] theorem ABl:Tryz.prog.cellsOf 3=1:=by kernel_rfl
@[simp] theorem ABS:Tryz.prog.bytesOf 3=8:=by kernel_rfl
@[simp] theorem ABs:Bn Tryz.prog 3=some [.d (.int .i64 0)]:=by kernel_rfl
@[simp] theorem ABw:Tryz.prog.underlying 3=some (.int .i64):=by kernel_rfl
@[simp] theorem ABY:(Tryz.prog.underlying 4).isSome=true:=by kernel_rfl
@[simp] theorem ABC:Dl Tryz.prog 4=false:=by kernel_rfl
@[simp] theorem ABb:Tryz.prog.cellsOf 4=1:=by kernel_rfl
@[simp] theorem ABX:Tryz.prog.bytesOf 4=1:=by kernel_rfl
@[simp] theorem ABe:Bn Tryz.prog 4=some [.d (.bool false)]:=by kernel_rfl
@[simp] theorem ABG:Tryz.prog.underlying 4=some .bool:=by kernel_rfl
@[simp] theorem ABh:(Tryz.prog.underlying 5).isSome=true:=by kernel_rfl
@[simp] theorem ABK:Dl Tryz.prog 5=false:=by kernel_rfl
@[simp] theorem ABt:Tryz.prog.cellsOf 5=1:=by kernel_rfl
@[simp] theorem ABD:Tryz.prog.bytesOf 5=1:=by kernel_rfl
@[simp] theorem ABL:Bn Tryz.prog 5=some [.d (.int .u8 0)]:=by kernel_rfl
@[simp] theorem ABm:Tryz.prog.underlying 5=some (.int .u8):=by kernel_rfl
@[simp] theorem ABF:(Tryz.prog.underlying 6).isSome=true:=by kernel_rfl
@[simp] theorem ABQ:Dl Tryz.prog 6=false:=by kernel_rfl
@[simp] theorem ABN:Tryz.prog.cellsOf 6=1:=by kernel_rfl
@[simp] theorem ABx:Tryz.prog.bytesOf 6=1:=by kernel_rfl
@[simp] theorem ABP:Bn Tryz.prog 6=some [.d (.int .u8 0)]:=by kernel_rfl
@[simp] theorem ABv:Tryz.prog.underlying 6=some (.int .u8):=by kernel_rfl
@[simp] theorem ABU:(Tryz.prog.underlying 7).isSome=true:=by kernel_rfl
@[simp] theorem ABo:Dl Tryz.prog 7=true:=by kernel_rfl
@[simp] theorem ABI:Tryz.prog.cellsOf 7=4:=by kernel_rfl
@[simp] theorem ABT:Tryz.prog.bytesOf 7=24:=by kernel_rfl
@[simp] theorem yR:AS Tryz.prog 7 0=some (0,2):=by kernel_rfl
@[simp] theorem zW:AS Tryz.prog 7 1=some (1,3):=by kernel_rfl
@[simp] theorem yE:AS Tryz.prog 7 2=some (2,4):=by kernel_rfl
@[simp] theorem wB:AS Tryz.prog 7 3=some (3,6):=by kernel_rfl
@[simp] theorem ABO:Bn Tryz.prog 7=some [.d (.int .i64 0),.d (.int .i64 0),.d (.bool false),.d (.int .u8 0)]:=by kernel_rfl
@[simp] theorem ABf:(Tryz.prog.underlying 8).isSome=true:=by kernel_rfl
@[simp] theorem ABp:Dl Tryz.prog 8=true:=by kernel_rfl
@[simp] theorem ABJ:Tryz.prog.cellsOf 8=4:=by kernel_rfl
@[simp] theorem ABV:Tryz.prog.bytesOf 8=24:=by kernel_rfl
@[simp] theorem AAi:AS Tryz.prog 8 0=some (0,2):=by kernel_rfl
@[simp] theorem xV:AS Tryz.prog 8 1=some (1,3):=by kernel_rfl
@[simp] theorem AA9:AS Tryz.prog 8 2=some (2,4):=by kernel_rfl
@[simp] theorem wH:AS Tryz.prog 8 3=some (3,6):=by kernel_rfl
@[simp] theorem ABn:Bn Tryz.prog 8=some [.d (.int .i64 0),.d (.int .i64 0),.d (.bool false),.d (.int .u8 0)]:=by kernel_rfl
@[simp] theorem AAS:(Tryz.prog.underlying 12).isSome=true:=by kernel_rfl
@[simp] theorem yO:Dl Tryz.prog 12=false:=by kernel_rfl
@[simp] theorem AAf:Tryz.prog.cellsOf 12=1:=by kernel_rfl
@[simp] theorem AA4:Tryz.prog.bytesOf 12=8:=by kernel_rfl
@[simp] theorem AAI:Bn Tryz.prog 12=some [.d (.int .u64 0)]:=by kernel_rfl
@[simp] theorem ABA:Tryz.prog.underlying 12=some (.int .u64):=by kernel_rfl
@[simp] theorem wI:(Tryz.prog.underlying 21).isSome=true:=by kernel_rfl
@[simp] theorem wT:Dl Tryz.prog 21=false:=by kernel_rfl
@[simp] theorem xU:Tryz.prog.cellsOf 21=1:=by kernel_rfl
@[simp] theorem AAV:Tryz.prog.bytesOf 21=4:=by kernel_rfl
@[simp] theorem AAE:Bn Tryz.prog 21=some [.d (.int .i32 0)]:=by kernel_rfl
@[simp] theorem wP:Tryz.prog.underlying 21=some (.int .i32):=by kernel_rfl
@[simp] theorem AAT:(Tryz.prog.underlying 22).isSome=true:=by kernel_rfl
@[simp] theorem AAt:Dl Tryz.prog 22=false:=by kernel_rfl
@[simp] theorem AAA:Tryz.prog.cellsOf 22=1:=by kernel_rfl
@[simp] theorem zO:Tryz.prog.bytesOf 22=24:=by kernel_rfl
@[simp] theorem AAz:BO Tryz.prog 22=some 5:=by kernel_rfl
@[simp] theorem wQ:Bn Tryz.prog 22=some [.nil 5]:=by kernel_rfl
@[simp] theorem AAx:(Tryz.prog.underlying 24).isSome=true:=by kernel_rfl
@[simp] theorem xQ:Dl Tryz.prog 24=false:=by kernel_rfl
@[simp] theorem zU:Tryz.prog.cellsOf 24=1:=by kernel_rfl
@[simp] theorem yZ:Tryz.prog.bytesOf 24=24:=by kernel_rfl
@[simp] theorem B4:BO Tryz.prog 24=some 57:=by kernel_rfl
@[simp] theorem wJ:Bn Tryz.prog 24=some [.nil 57]:=by kernel_rfl
@[simp] theorem AA7:(Tryz.prog.underlying 25).isSome=true:=by kernel_rfl
@[simp] theorem wO:Dl Tryz.prog 25=false:=by kernel_rfl
@[simp] theorem AAU:Tryz.prog.cellsOf 25=1:=by kernel_rfl
@[simp] theorem zJ:Tryz.prog.bytesOf 25=24:=by kernel_rfl
@[simp] theorem En:BO Tryz.prog 25=some 63:=by kernel_rfl
@[simp] theorem xH:Bn Tryz.prog 25=some [.nil 63]:=by kernel_rfl
@[simp] theorem vX:(Tryz.prog.underlying 26).isSome=true:=by kernel_rfl
@[simp] theorem AAN:Dl Tryz.prog 26=false:=by kernel_rfl
@[simp] theorem wR:Tryz.prog.cellsOf 26=1:=by kernel_rfl
@[simp] theorem AA6:Tryz.prog.bytesOf 26=24:=by kernel_rfl
@[simp] theorem As:BO Tryz.prog 26=some 3:=by kernel_rfl
@[simp] theorem xZ:Bn Tryz.prog 26=some [.nil 3]:=by kernel_rfl
@[simp] theorem xN:(Tryz.prog.underlying 27).isSome=true:=by kernel_rfl
@[simp] theorem xO:Dl Tryz.prog 27=true:=by kernel_rfl
@[simp] theorem xE:Tryz.prog.cellsOf 27=4:=by kernel_rfl
@[simp] theorem AAM:Tryz.prog.bytesOf 27=80:=by kernel_rfl
@[simp] theorem uM:AS Tryz.prog 27 0=some (0,3):=by kernel_rfl
@[simp] theorem uG:AS Tryz.prog 27 1=some (1,24):=by kernel_rfl
@[simp] theorem sP:AS Tryz.prog 27 2=some (2,25):=by kernel_rfl
@[simp] theorem sZ:AS Tryz.prog 27 3=some (3,26):=by kernel_rfl
@[simp] theorem yB:Bn Tryz.prog 27=some [.d (.int .i64 0),.nil 57,.nil 63,.nil 3]:=by kernel_rfl
@[simp] theorem xX:(Tryz.prog.underlying 28).isSome=true:=by kernel_rfl
@[simp] theorem wF:Dl Tryz.prog 28=true:=by kernel_rfl
@[simp] theorem wS:Tryz.prog.cellsOf 28=4:=by kernel_rfl
@[simp] theorem zD:Tryz.prog.bytesOf 28=80:=by kernel_rfl
@[simp] theorem vP:AS Tryz.prog 28 0=some (0,3):=by kernel_rfl
@[simp] theorem rR:AS Tryz.prog 28 1=some (1,24):=by kernel_rfl
@[simp] theorem vR:AS Tryz.prog 28 2=some (2,25):=by kernel_rfl
@[simp] theorem vL:AS Tryz.prog 28 3=some (3,26):=by kernel_rfl
@[simp] theorem wG:Bn Tryz.prog 28=some [.d (.int .i64 0),.nil 57,.nil 63,.nil 3]:=by kernel_rfl
@[simp] theorem AAe:(Tryz.prog.underlying 32).isSome=true:=by kernel_rfl
@[simp] theorem AA0:Dl Tryz.prog 32=false:=by kernel_rfl
@[simp] theorem AAq:Tryz.prog.cellsOf 32=1:=by kernel_rfl
@[simp] theorem yP:Tryz.prog.bytesOf 32=24:=by kernel_rfl
@[simp] theorem AM:BO Tryz.prog 32=some 26:=by kernel_rfl
@[simp] theorem AAm:Bn Tryz.prog 32=some [.nil 26]:=by kernel_rfl
@[simp] theorem AAh:(Tryz.prog.underlying 45).isSome=true:=by kernel_rfl
@[simp] theorem zI:Dl Tryz.prog 45=true:=by kernel_rfl
@[simp] theorem yU:Tryz.prog.cellsOf 45=2:=by kernel_rfl
@[simp] theorem yG:Tryz.prog.bytesOf 45=32:=by kernel_rfl
@[simp] theorem vV:AS Tryz.prog 45 0=some (0,3):=by kernel_rfl
@[simp] theorem uW:AS Tryz.prog 45 1=some (1,32):=by kernel_rfl
@[simp] theorem AAL:Bn Tryz.prog 45=some [.d (.int .i64 0),.nil 26]:=by kernel_rfl
@[simp] theorem AAP:(Tryz.prog.underlying 46).isSome=true:=by kernel_rfl
@[simp] theorem yJ:Dl Tryz.prog 46=true:=by kernel_rfl
@[simp] theorem AA1:Tryz.prog.cellsOf 46=2:=by kernel_rfl
@[simp] theorem AAK:Tryz.prog.bytesOf 46=32:=by kernel_rfl
@[simp] theorem uT:AS Tryz.prog 46 0=some (0,3):=by kernel_rfl
@[simp] theorem tD:AS Tryz.prog 46 1=some (1,32):=by kernel_rfl
@[simp] theorem AAJ:Bn Tryz.prog 46=some [.d (.int .i64 0),.nil 26]:=by kernel_rfl
@[simp] theorem yQ:(Tryz.prog.underlying 49).isSome=true:=by kernel_rfl
@[simp] theorem wU:Dl Tryz.prog 49=false:=by kernel_rfl
@[simp] theorem zS:Tryz.prog.cellsOf 49=1:=by kernel_rfl
@[simp] theorem zE:Tryz.prog.bytesOf 49=24:=by kernel_rfl
@[simp] theorem Mt:BO Tryz.prog 49=some 4:=by kernel_rfl
@[simp] theorem yX:Bn Tryz.prog 49=some [.nil 4]:=by kernel_rfl
@[simp] theorem yH:(Tryz.prog.underlying 54).isSome=true:=by kernel_rfl
@[simp] theorem wM:Dl Tryz.prog 54=false:=by kernel_rfl
@[simp] theorem AAC:Tryz.prog.cellsOf 54=1:=by kernel_rfl
@[simp] theorem yV:Tryz.prog.bytesOf 54=8:=by kernel_rfl
@[simp] theorem ABB:Bn Tryz.prog 54=some [.d (.int .u64 0)]:=by kernel_rfl
@[simp] theorem wW:Tryz.prog.underlying 54=some (.int .u64):=by kernel_rfl
@[simp] theorem wC:(Tryz.prog.underlying 56).isSome=true:=by kernel_rfl
@[simp] theorem AAQ:Dl Tryz.prog 56=true:=by kernel_rfl
@[simp] theorem yM:Tryz.prog.cellsOf 56=3:=by kernel_rfl
@[simp] theorem AAX:Tryz.prog.bytesOf 56=40:=by kernel_rfl
@[simp] theorem vD:AS Tryz.prog 56 0=some (0,3):=by kernel_rfl
@[simp] theorem sW:AS Tryz.prog 56 1=some (1,3):=by kernel_rfl
@[simp] theorem sV:AS Tryz.prog 56 2=some (2,26):=by kernel_rfl
@[simp] theorem zP:Bn Tryz.prog 56=some [.d (.int .i64 0),.d (.int .i64 0),.nil 3]:=by kernel_rfl
@[simp] theorem AAZ:(Tryz.prog.underlying 57).isSome=true:=by kernel_rfl
@[simp] theorem yA:Dl Tryz.prog 57=true:=by kernel_rfl
@[simp] theorem AAr:Tryz.prog.cellsOf 57=3:=by kernel_rfl
@[simp] theorem AAb:Tryz.prog.bytesOf 57=40:=by kernel_rfl
@[simp] theorem vM:AS Tryz.prog 57 0=some (0,3):=by kernel_rfl
@[simp] theorem rU:AS Tryz.prog 57 1=some (1,3):=by kernel_rfl
@[simp] theorem sJ:AS Tryz.prog 57 2=some (2,26):=by kernel_rfl
@[simp] theorem xY:Bn Tryz.prog 57=some [.d (.int .i64 0),.d (.int .i64 0),.nil 3]:=by kernel_rfl
@[simp] theorem yD:(Tryz.prog.underlying 62).isSome=true:=by kernel_rfl
@[simp] theorem zH:Dl Tryz.prog 62=true:=by kernel_rfl
@[simp] theorem AAj:Tryz.prog.cellsOf 62=2:=by kernel_rfl
@[simp] theorem zZ:Tryz.prog.bytesOf 62=16:=by kernel_rfl
@[simp] theorem tC:AS Tryz.prog 62 0=some (0,3):=by kernel_rfl
@[simp] theorem tT:AS Tryz.prog 62 1=some (1,3):=by kernel_rfl
@[simp] theorem xL:Bn Tryz.prog 62=some [.d (.int .i64 0),.d (.int .i64 0)]:=by kernel_rfl
@[simp] theorem yK:KB Tryz.prog 62=true:=by kernel_rfl
@[simp] theorem zT:(Tryz.prog.underlying 63).isSome=true:=by kernel_rfl
@[simp] theorem yI:Dl Tryz.prog 63=true:=by kernel_rfl
@[simp] theorem AA2:Tryz.prog.cellsOf 63=2:=by kernel_rfl
@[simp] theorem AAd:Tryz.prog.bytesOf 63=16:=by kernel_rfl
@[simp] theorem rO:AS Tryz.prog 63 0=some (0,3):=by kernel_rfl
@[simp] theorem rM:AS Tryz.prog 63 1=some (1,3):=by kernel_rfl
@[simp] theorem xP:Bn Tryz.prog 63=some [.d (.int .i64 0),.d (.int .i64 0)]:=by kernel_rfl
@[simp] theorem zV:KB Tryz.prog 63=true:=by kernel_rfl
@[simp] theorem AA8:(Tryz.prog.underlying 65).isSome=true:=by kernel_rfl
@[simp] theorem zN:Dl Tryz.prog 65=true:=by kernel_rfl
@[simp] theorem zQ:Tryz.prog.cellsOf 65=3:=by kernel_rfl
@[simp] theorem xG:Tryz.prog.bytesOf 65=40:=by kernel_rfl
@[simp] theorem sD:AS Tryz.prog 65 0=some (0,22):=by kernel_rfl
@[simp] theorem vB:AS Tryz.prog 65 1=some (1,3):=by kernel_rfl
@[simp] theorem tR:AS Tryz.prog 65 2=some (2,3):=by kernel_rfl
@[simp] theorem wE:Bn Tryz.prog 65=some [.nil 5,.d (.int .i64 0),.d (.int .i64 0)]:=by kernel_rfl
@[simp] theorem AAl:(Tryz.prog.underlying 66).isSome=true:=by kernel_rfl
@[simp] theorem xK:Dl Tryz.prog 66=true:=by kernel_rfl
@[simp] theorem xW:Tryz.prog.cellsOf 66=3:=by kernel_rfl
@[simp] theorem xA:Tryz.prog.bytesOf 66=40:=by kernel_rfl
@[simp] theorem uX:AS Tryz.prog 66 0=some (0,22):=by kernel_rfl
@[simp] theorem sS:AS Tryz.prog 66 1=some (1,3):=by kernel_rfl
@[simp] theorem vA:AS Tryz.prog 66 2=some (2,3):=by kernel_rfl
@[simp] theorem yS:Bn Tryz.prog 66=some [.nil 5,.d (.int .i64 0),.d (.int .i64 0)]:=by kernel_rfl
@[simp] theorem zR:(Tryz.prog.underlying 79).isSome=true:=by kernel_rfl
@[simp] theorem AAG:Dl Tryz.prog 79=true:=by kernel_rfl
@[simp] theorem wL:Tryz.prog.cellsOf 79=5:=by kernel_rfl
@[simp] theorem vZ:Tryz.prog.bytesOf 79=88:=by kernel_rfl
@[simp] theorem sC:AS Tryz.prog 79 0=some (0,46):=by kernel_rfl
@[simp] theorem uK:AS Tryz.prog 79 1=some (2,3):=by kernel_rfl
@[simp] theorem uE:AS Tryz.prog 79 2=some (3,32):=by kernel_rfl
@[simp] theorem tS:AS Tryz.prog 79 3=some (4,26):=by kernel_rfl
@[simp] theorem xI:Bn Tryz.prog 79=some [.d (.int .i64 0),.nil 26,.d (.int .i64 0),.nil 26,.nil 3]:=by kernel_rfl
@[simp] theorem AAn:(Tryz.prog.underlying 80).isSome=true:=by kernel_rfl
@[simp] theorem AA3:Dl Tryz.prog 80=true:=by kernel_rfl
@[simp] theorem AAu:Tryz.prog.cellsOf 80=5:=by kernel_rfl
@[simp] theorem AAp:Tryz.prog.bytesOf 80=88:=by kernel_rfl
@[simp] theorem sU:AS Tryz.prog 80 0=some (0,46):=by kernel_rfl
@[simp] theorem uC:AS Tryz.prog 80 1=some (2,3):=by kernel_rfl
@[simp] theorem sN:AS Tryz.prog 80 2=some (3,32):=by kernel_rfl
@[simp] theorem tJ:AS Tryz.prog 80 3=some (4,26):=by kernel_rfl
@[simp] theorem wZ:Bn Tryz.prog 80=some [.d (.int .i64 0),.nil 26,.d (.int .i64 0),.nil 26,.nil 3]:=by kernel_rfl
@[simp] theorem AA5:(Tryz.prog.underlying 83).isSome=true:=by kernel_rfl
@[simp] theorem zF:Dl Tryz.prog 83=false:=by kernel_rfl
@[simp] theorem AAw:Tryz.prog.cellsOf 83=1:=by kernel_rfl
@[simp] theorem AAs:Tryz.prog.bytesOf 83=24:=by kernel_rfl
@[simp] theorem xC:BO Tryz.prog 83=some 28:=by kernel_rfl
@[simp] theorem xD:Bn Tryz.prog 83=some [.nil 28]:=by kernel_rfl
@[simp] theorem wA:(Tryz.prog.underlying 90).isSome=true:=by kernel_rfl
@[simp] theorem xS:Dl Tryz.prog 90=true:=by kernel_rfl
@[simp] theorem wV:Tryz.prog.cellsOf 90=6:=by kernel_rfl
@[simp] theorem xJ:Tryz.prog.bytesOf 90=96:=by kernel_rfl
@[simp] theorem tK:AS Tryz.prog 90 0=some (0,46):=by kernel_rfl
@[simp] theorem sF:AS Tryz.prog 90 1=some (2,3):=by kernel_rfl
@[simp] theorem uS:AS Tryz.prog 90 2=some (3,3):=by kernel_rfl
@[simp] theorem tU:AS Tryz.prog 90 3=some (4,32):=by kernel_rfl
@[simp] theorem sI:AS Tryz.prog 90 4=some (5,26):=by kernel_rfl
@[simp] theorem AAW:Bn Tryz.prog 90=some [.d (.int .i64 0),.nil 26,.d (.int .i64 0),.d (.int .i64 0),.nil 26,.nil 3]:=by kernel_rfl
@[simp] theorem yC:(Tryz.prog.underlying 91).isSome=true:=by kernel_rfl
@[simp] theorem AAB:Dl Tryz.prog 91=true:=by kernel_rfl
@[simp] theorem zL:Tryz.prog.cellsOf 91=6:=by kernel_rfl
@[simp] theorem AAy:Tryz.prog.bytesOf 91=96:=by kernel_rfl
@[simp] theorem vU:AS Tryz.prog 91 0=some (0,46):=by kernel_rfl
@[simp] theorem sM:AS Tryz.prog 91 1=some (2,3):=by kernel_rfl
@[simp] theorem vJ:AS Tryz.prog 91 2=some (3,3):=by kernel_rfl
@[simp] theorem rW:AS Tryz.prog 91 3=some (4,32):=by kernel_rfl
@[simp] theorem sX:AS Tryz.prog 91 4=some (5,26):=by kernel_rfl
@[simp] theorem AAO:Bn Tryz.prog 91=some [.d (.int .i64 0),.nil 26,.d (.int .i64 0),.d (.int .i64 0),.nil 26,.nil 3]:=by kernel_rfl
@[simp] theorem uB:(Tryz.prog.underlying 114).isSome=true:=by kernel_rfl
@[simp] theorem rZ:Dl Tryz.prog 114=false:=by kernel_rfl
@[simp] theorem tF:Tryz.prog.cellsOf 114=1:=by kernel_rfl
@[simp] theorem tN:Tryz.prog.bytesOf 114=24:=by kernel_rfl
@[simp] theorem Th:BO Tryz.prog 114=some 32:=by kernel_rfl
@[simp] theorem rX:Bn Tryz.prog 114=some [.nil 32]:=by kernel_rfl
@[simp] theorem sG:(Tryz.prog.underlying 117).isSome=true:=by kernel_rfl
@[simp] theorem uQ:Dl Tryz.prog 117=true:=by kernel_rfl
@[simp] theorem uF:Tryz.prog.cellsOf 117=2:=by kernel_rfl
@[simp] theorem tH:Tryz.prog.bytesOf 117=16:=by kernel_rfl
@[simp] theorem qA:AS Tryz.prog 117 0=some (0,3):=by kernel_rfl
@[simp] theorem qC:AS Tryz.prog 117 1=some (1,3):=by kernel_rfl
@[simp] theorem uP:Bn Tryz.prog 117=some [.d (.int .i64 0),.d (.int .i64 0)]:=by kernel_rfl
@[simp] theorem vQ:KB Tryz.prog 117=true:=by kernel_rfl
@[simp] theorem vH:(Tryz.prog.underlying 118).isSome=true:=by kernel_rfl
@[simp] theorem vC:Dl Tryz.prog 118=true:=by kernel_rfl
@[simp] theorem sQ:Tryz.prog.cellsOf 118=2:=by kernel_rfl
@[simp] theorem tG:Tryz.prog.bytesOf 118=16:=by kernel_rfl
@[simp] theorem rH:AS Tryz.prog 118 0=some (0,3):=by kernel_rfl
@[simp] theorem qD:AS Tryz.prog 118 1=some (1,3):=by kernel_rfl
@[simp] theorem tQ:Bn Tryz.prog 118=some [.d (.int .i64 0),.d (.int .i64 0)]:=by kernel_rfl
@[simp] theorem sO:KB Tryz.prog 118=true:=by kernel_rfl
@[simp] theorem rJ:(Tryz.prog.underlying 120).isSome=true:=by kernel_rfl
@[simp] theorem rY:Dl Tryz.prog 120=false:=by kernel_rfl
@[simp] theorem tV:Tryz.prog.cellsOf 120=1:=by kernel_rfl
@[simp] theorem rS:Tryz.prog.bytesOf 120=24:=by kernel_rfl
@[simp] theorem Nb:BO Tryz.prog 120=some 133:=by kernel_rfl
@[simp] theorem tO:Bn Tryz.prog 120=some [.nil 133]:=by kernel_rfl
@[simp] theorem rI:(Tryz.prog.underlying 132).isSome=true:=by kernel_rfl
@[simp] theorem vK:Dl Tryz.prog 132=true:=by kernel_rfl
@[simp] theorem uL:Tryz.prog.cellsOf 132=2:=by kernel_rfl
@[simp] theorem rN:Tryz.prog.bytesOf 132=16:=by kernel_rfl
@[simp] theorem pR:AS Tryz.prog 132 0=some (0,3):=by kernel_rfl
@[simp] theorem qE:AS Tryz.prog 132 1=some (1,3):=by kernel_rfl
@[simp] theorem tX:Bn Tryz.prog 132=some [.d (.int .i64 0),.d (.int .i64 0)]:=by kernel_rfl
@[simp] theorem sK:KB Tryz.prog 132=true:=by kernel_rfl
@[simp] theorem tP:(Tryz.prog.underlying 133).isSome=true:=by kernel_rfl
@[simp] theorem sR:Dl Tryz.prog 133=true:=by kernel_rfl
@[simp] theorem TI:Tryz.prog.cellsOf 133=2:=by kernel_rfl
@[simp] theorem tY:Tryz.prog.bytesOf 133=16:=by kernel_rfl
@[simp] theorem pX:AS Tryz.prog 133 0=some (0,3):=by kernel_rfl
@[simp] theorem pW:AS Tryz.prog 133 1=some (1,3):=by kernel_rfl
@[simp] theorem uR:Bn Tryz.prog 133=some [.d (.int .i64 0),.d (.int .i64 0)]:=by kernel_rfl
@[simp] theorem sL:KB Tryz.prog 133=true:=by kernel_rfl
@[simp] theorem vI:(Tryz.prog.underlying 142).isSome=true:=by kernel_rfl
@[simp] theorem sE:(Tryz.prog.underlying 146).isSome=true:=by kernel_rfl
@[simp] theorem vT:Dl Tryz.prog 146=false:=by kernel_rfl
@[simp] theorem tL:Tryz.prog.cellsOf 146=1:=by kernel_rfl
@[simp] theorem rP:Tryz.prog.bytesOf 146=4:=by kernel_rfl
@[simp] theorem uZ:Bn Tryz.prog 146=some [.d (.int .u32 0)]:=by kernel_rfl
@[simp] theorem vO:Tryz.prog.underlying 146=some (.int .u32):=by kernel_rfl
@[simp] theorem rL:(Tryz.prog.underlying 147).isSome=true:=by kernel_rfl
@[simp] theorem rT:Dl Tryz.prog 147=false:=by kernel_rfl
@[simp] theorem uV:Tryz.prog.cellsOf 147=1:=by kernel_rfl
@[simp] theorem uJ:Tryz.prog.bytesOf 147=1:=by kernel_rfl
@[simp] theorem uH:Bn Tryz.prog 147=some [.d (.int .u8 0)]:=by kernel_rfl
@[simp] theorem uD:Tryz.prog.underlying 147=some (.int .u8):=by kernel_rfl
@[simp] theorem uU:(Tryz.prog.underlying 148).isSome=true:=by kernel_rfl
@[simp] theorem vW:Dl Tryz.prog 148=false:=by kernel_rfl
@[simp] theorem vS:Tryz.prog.cellsOf 148=1:=by kernel_rfl
@[simp] theorem rV:Tryz.prog.bytesOf 148=1:=by kernel_rfl
@[simp] theorem uY:Bn Tryz.prog 148=some [.d (.int .u8 0)]:=by kernel_rfl
@[simp] theorem uO:Tryz.prog.underlying 148=some (.int .u8):=by kernel_rfl
@[simp] theorem tW:(Tryz.prog.underlying 151).isSome=true:=by kernel_rfl
@[simp] theorem uN:Dl Tryz.prog 151=false:=by kernel_rfl
@[simp] theorem vE:Tryz.prog.cellsOf 151=1:=by kernel_rfl
@[simp] theorem uA:Tryz.prog.bytesOf 151=4:=by kernel_rfl
@[simp] theorem sH:Bn Tryz.prog 151=some [.d (.int .i32 0)]:=by kernel_rfl
@[simp] theorem uI:Tryz.prog.underlying 151=some (.int .i32):=by kernel_rfl
@[simp] theorem rK:(Tryz.prog.underlying 152).isSome=true:=by kernel_rfl
@[simp] theorem sY:Dl Tryz.prog 152=false:=by kernel_rfl
@[simp] theorem tM:Tryz.prog.cellsOf 152=1:=by kernel_rfl
@[simp] theorem tZ:Tryz.prog.bytesOf 152=4:=by kernel_rfl
@[simp] theorem tE:Bn Tryz.prog 152=some [.d (.int .i32 0)]:=by kernel_rfl
@[simp] theorem vG:Tryz.prog.underlying 152=some (.int .i32):=by kernel_rfl
section
variable {P:Program} {m:Mode} {Q:Exit→St→Prop} {σ:St} {dr:Bool}
theorem V6:IG P m .skip Q σ=Q .normal σ:=rfl
theorem MG {id n:Nat} {s b:Bool} {ops:Array Oper}:IG P ⟨n,s,b,false⟩ (.region id ops true) Q σ=(Uv ops=true∧Bj P ⟨n,s,false,false⟩ ops (Q .normal) ops.toList σ):=rfl
theorem T7 {id n:Nat} {s b:Bool} {ops:Array Oper}:IG P ⟨n,s,b,true⟩ (.region id ops true) Q σ=TA P ⟨n,s,b,true⟩ ops Q σ:=rfl
theorem AH {n:Nat} {s b:Bool} {ops:Array Oper} (q:Nat) (h:Kc ops q=true) (h2:Bj P ⟨n,s,false,true⟩ ops (Bj P ⟨n,s,b,true⟩ ops (Q .normal) (ops.toList.drop q)) (ops.toList.take q) σ):TA P ⟨n,s,b,true⟩ ops Q σ:=.inl (.inl ⟨q,h,h2⟩)
theorem Fk {id:Nat} {ops:Array Oper}:IG P m (.region id ops false) Q σ=Bj P m ops (Q .normal) ops.toList σ:=rfl
theorem gT {n:Nat} {s b q:Bool}:(⟨n,s,b,q⟩:Mode).still=⟨n,s,false,q⟩:=rfl
theorem KQ {a b:Code}:IG P m (.seq a b) Q σ=IG P m a (Hc (IG P m b Q) Q) σ:=rfl
def KH (t:Bool) (A B:Prop):Prop:=(t=true→A)∧(t=false→B)
theorem QM {A B:Prop}:KH true A B=A:=by simp[KH]
theorem Om {A B:Prop}:KH false A B=B:=by simp[KH]
def Xs (t:Bool) (A B:Prop):Prop:=KH t A B
@[congr] theorem oX {t t':Bool} {A B:Prop} (h:t=t'):Xs t A B=Xs t' A B:=by rw[h]
theorem BT {A B:Prop}:Xs true A B=A:=QM
theorem BS {A B:Prop}:Xs false A B=B:=Om
def pJ (P:Program) (m:Mode) (x y:Code) (Q:Exit→St→Prop) (σ:St) (v:V):Prop :=
 match v with
 | .d (.bool t)=>KH t (IG P m x Q σ) (IG P m y Q σ)
 | _=>False
theorem PN {x y:Code} {t:Bool}:pJ P m x y Q σ (.d (.bool t))=KH t (IG P m x Q σ) (IG P m y Q σ):=rfl
theorem W3 {c:Operand} {x y:Code}:IG P m (.cond c x y) Q σ=pJ P m x y Q σ (σ.eval c):=by
 show (match σ.eval c with
  | .d (.bool t)=>(t=true→IG P m x Q σ)∧(t=false→IG P m y Q σ)
  | _=>False)=_
 rfl
theorem Sq {id:Nat} {c:Code}:IG P m (.block id c) Q σ=IG P m c (HU id Q) σ:=rfl
theorem iO {id:Nat}:IG P m (.exit id) Q σ=Q (.exit id) σ:=rfl
theorem HA:IG P m .ret Q σ=Q .ret σ:=rfl
section
variable {K:St→Prop} {d:Option Tmp} {ty:TypeId} {pos:String} {af:Array Edge} {g:Option (Nat×Bool)} {x y z:Operand} {t s:TypeId} {f n:Nat}
theorem jX {o:Oper} (h:WP P m o K σ=∃ x news,(H0 P m.st σ o=some x∧news=[])∧K (St.put ⟨σ.tmps,σ.slots++news⟩ o.dst x)):WP P m o K σ=∃ x,H0 P m.st σ o=some x∧K (σ.put o.dst x):=by
 rw[h];apply propext;constructor
 · rintro⟨x,news,⟨h1,rfl⟩,h2⟩;rw[List.append_nil] at h2;exact⟨x,h1,h2⟩
 · rintro⟨x,h1,h2⟩;exact⟨x,[],⟨h1,rfl⟩,by rw[List.append_nil];exact h2⟩
theorem UC {v:V} {K:V→Prop}:(∃ x,some v=some x∧K x)=K v:=by
 apply propext;constructor
 · rintro⟨x,h,hk⟩;cases h;exact hk
 · exact fun h=>⟨v,rfl,h⟩
variable {ops:Array Oper} {rest:List Oper}
def F7 (P:Program) (m:Mode) (ops:Array Oper) (K:St→Prop) (rest:List Oper) (σ:St) (d:Option Tmp) (v:Option V):Prop:=∃ x,v=some x∧Bj P m ops K rest (σ.put d x)
theorem D3 {v:V}:F7 P m ops K rest σ d (some v)=Bj P m ops K rest (σ.put d v):=UC
def gY (P:Program) (m:Mode) (ops:Array Oper) (K:St→Prop) (T:List (Oper×List Nat)) (N:List (Nat×List Nat)) (σ:St):Prop:=GB P m ops N σ.slots K T σ
theorem dZ {T:List (Oper×List Nat)} {N:List (Nat×List Nat)} {ts:List V} {sl:List Ah}:gY P m ops K T N ⟨ts,sl⟩=GB P m ops N sl K T ⟨ts,sl⟩:=rfl
def oU (P:Program) (m:Mode) (ops:Array Oper) (N:List (Nat×List Nat)) (sl0:List Ah) (K:St→Prop) (ns:List Nat) (T:List (Oper×List Nat)) (σ:St):Prop:=FH sl0 σ.slots ns N∧GB P m ops N sl0 K T σ
theorem kK {T:List (Oper×List Nat)} {N:List (Nat×List Nat)} {sl0:List Ah} {ns:List Nat} {ts:List V} {sl:List Ah}:oU P m ops N sl0 K ns T ⟨ts,sl⟩=(FH sl0 sl ns N∧GB P m ops N sl0 K T ⟨ts,sl⟩):=rfl
theorem dI {KE:List (Nat×List Nat)→St→Prop} {ts N:List (Nat×List Nat)}:Kr P m ops ts KE [] N σ=KE N σ:=rfl
theorem YV {KE:List (Nat×List Nat)→St→Prop} {ts N:List (Nat×List Nat)} {i:Nat} {o:Oper} {E:List (Nat×Oper)}:Kr P m ops ts KE ((i,o)::E) N σ=Bj P m ops (Kr P m ops ts KE E (if OP ts i=true then (i,GW o σ)::N else N)) [o] σ:=rfl
theorem cB {N:List (Nat×List Nat)} {sl0:List Ah}:GB P m ops N sl0 K [] σ=K σ:=rfl
def UO (P:Program) (m:Mode) (ops:Array Oper) (N:List (Nat×List Nat)) (sl0:List Ah) (K:St→Prop) (ns:List Nat) (T:List (Oper×List Nat)) (σ:St) (d:Option Tmp) (f:FuncId) (xs near:List V):Prop :=
 m.st=false∧∃ (ks π:List Nat) (args:List V) (slc:List Ah) (q:V) (slc':List Ah),CM P f args slc q slc'∧BP slc∧ks.Nodup∧Jv σ.slots ks∧π.Nodup∧EQ true (kill ks σ.slots) π π slc∧HW true (kill ks σ.slots) π (xs.map (Lo σ.slots ks)) args ∧
  (∀ k∈ks++π,Bc σ.slots near k)∧hY (kill ks σ.slots) π q slc' fun z r=>FH sl0 r ns N∧GB P m ops N sl0 K T (St.put ⟨σ.tmps,r⟩ d z)
def fF (t:Bool) (A B:Prop):Prop:=if t=true then A else B
theorem PK {A B:Prop}:fF true A B=A:=rfl
theorem Wt {A B:Prop}:fF false A B=B:=rfl
def Ud (P:Program) (m:Mode) (ops:Array Oper) (N:List (Nat×List Nat)) (sl0:List Ah) (K:St→Prop) (ns:List Nat) (T:List (Oper×List Nat)) (σ:St) (d:Option Tmp) (v:V) (xs:List V):Prop :=
 match v with
 | .fn f caps=>UO P m ops N sl0 K ns T σ d f (xs++caps) (.fn f caps::xs)
 | _=>False
theorem K0 {N:List (Nat×List Nat)} {sl0:List Ah} {ns:List Nat} {T:List (Oper×List Nat)} {f:FuncId} {caps xs:List V}:Ud P m ops N sl0 K ns T σ d (.fn f caps) xs=UO P m ops N sl0 K ns T σ d f (xs++caps) (.fn f caps::xs):=rfl
def YG (P:Program) (m:Mode) (ops:Array Oper) (N:List (Nat×List Nat)) (sl0:List Ah) (K:St→Prop) (ns:List Nat) (T:List (Oper×List Nat)) (σ:St) (d:Option Tmp) (op:Op):Prop :=
 match op with
 | .call c=>match c.callee with
   | .value (.func f)=>UO P m ops N sl0 K ns T σ d f (c.args.toList.map σ.eval) (.fn f []::c.args.toList.map σ.eval)
   | .value v=>Ud P m ops N sl0 K ns T σ d (σ.eval v) (c.args.toList.map σ.eval)
   | _=>False
 | _=>False
theorem jR {N:List (Nat×List Nat)} {sl0:List Ah} {ns:List Nat} {T:List (Oper×List Nat)} {o:Oper} {c:Call} {v:Operand} (ho:o.op=.call c) (hc:c.callee=.value v) :
 (∃ z r,Sy P m o σ z r∧FH sl0 r ns N∧GB P m ops N sl0 K T (St.put ⟨σ.tmps,r⟩ d z))=Ud P m ops N sl0 K ns T σ d (σ.eval v) (c.args.toList.map σ.eval):=by
 apply propext;constructor
 · rintro⟨z,r,⟨h0,v',f,caps,c',ho',hc',hf,ks,π,aa,slc,q,slc',h1,h2,h3,h4,h5,h6,h7,h8,r1,ys,b1,b2,rfl,rfl⟩,hs,hk⟩;rw[ho] at ho'
   cases ho'
   rw[hc] at hc'
   cases hc'
   rw[hf,K0];exact⟨h0,ks,π,aa,slc,q,slc',h1,h2,h3,h4,h5,h6,h7,h8,_,ys,b1,b2,hs,hk⟩
 · intro h
   cases hv:σ.eval v with
   | fn f caps =>
     rw[hv,K0] at h;obtain⟨h0,ks,π,aa,slc,q,slc',h1,h2,h3,h4,h5,h6,h7,h8,r1,ys,b1,b2,hs,hk⟩:=h;exact⟨_,_,⟨h0,v,f,caps,c,ho,hc,hv,ks,π,aa,slc,q,slc',h1,h2,h3,h4,h5,h6,h7,h8,r1,ys,b1,b2,rfl,rfl⟩,hs,hk⟩
   | _=>rw[hv] at h;exact h.elim
theorem XT {N:List (Nat×List Nat)} {sl0:List Ah} {o:Oper} {ns:List Nat} {T:List (Oper×List Nat)}:GB P m ops N sl0 K ((o,ns)::T) σ=fF (Iq o) (YG P m ops N sl0 K ns T σ o.dst o.op) (Bj P m ops (oU P m ops N sl0 K ns T) [o] σ):=by
 show (if Iq o=true then _ else _)=_
 cases hc:Iq o with
 | false=>rfl
 | true =>
   rw[if_pos rfl,PK];unfold Iq at hc;split at hc
   · rename_i c ho;split at hc
     · rename_i v hf;rw[jR ho hf];unfold YG;rw[ho];simp only[hf]
       cases v with
       | func f =>
         show Ud P m ops N sl0 K ns T σ o.dst (.fn f []) _=_;rw[K0,List.append_nil]
       | tmp t=>rfl
       | _=>simp[fO] at hc
     · cases hc
   · cases hc
def gH (P:Program) (m:Mode) (ops:Array Oper) (N:List (Nat×List Nat)) (sl0:List Ah) (K:St→Prop) (ns:List Nat) (T:List (Oper×List Nat)) (Tm:List V) (d:Option Tmp) (sl:List Ah) (π:List Nat) (r':Option V) (ys:Option (List Ah)):Prop :=
 ∃ r ys',r'=some r∧ys=some ys'∧FH sl0 (B1 sl π (ys'.take π.length)++ys'.drop π.length) ns N∧GB P m ops N sl0 K T (St.put ⟨Tm,B1 sl π (ys'.take π.length)++ys'.drop π.length⟩ d r)
theorem VM {N:List (Nat×List Nat)} {sl0:List Ah} {ns:List Nat} {T:List (Oper×List Nat)} {Tm:List V} {sl:List Ah} {π:List Nat} {r:V} {ys:List Ah}:gH P m ops N sl0 K ns T Tm d sl π (some r) (some ys)=(FH sl0 (B1 sl π (ys.take π.length)++ys.drop π.length) ns N∧GB P m ops N sl0 K T (St.put ⟨Tm,B1 sl π (ys.take π.length)++ys.drop π.length⟩ d r)):=by
 apply propext;constructor
 · rintro⟨_,_,h1,h2,h⟩;cases h1;cases h2;exact h
 · exact fun h=>⟨_,_,rfl,rfl,h⟩
theorem Av {n:Nat} {s b:Bool} {ops:Array Oper} (ts:List (Nat×List Nat)) (h:M6 ops ts=true) (h2:Kr P ⟨n,s,false,true⟩ ops ts (gY P ⟨n,s,false,true⟩ ops (Q .normal) (Lq ops.toList ts)) (KK ts 0 ops.toList) [] σ):TA P ⟨n,s,b,true⟩ ops Q σ:=.inl (.inr (.inl ⟨ts,h,h2⟩))
def eP (P:Program) (m:Mode) (ops:Array Oper) (K:St→Prop) (ts:List (Nat×List Nat)) (N:List (Nat×List Nat)) (σ:St):Prop:=Oh P m ops N σ.slots K ts.length ts σ
theorem aG {T:List (Nat×List Nat)} {N:List (Nat×List Nat)} {ts:List V} {sl:List Ah}:eP P m ops K T N ⟨ts,sl⟩=Oh P m ops N sl K T.length T ⟨ts,sl⟩:=rfl
theorem Yf {N T:List (Nat×List Nat)} {sl0:List Ah}:Oh P m ops N sl0 K 0 T σ=K σ:=rfl
def PW (F:Nat×List Nat→Prop):List (Nat×List Nat)→Prop
 | []=>True
 | p::ps=>F p∧PW F ps
theorem AF {F:Nat×List Nat→Prop} {p:Nat×List Nat}:PW F [p]=F p:=by simp[PW]
theorem AE {F:Nat×List Nat→Prop} {p q:Nat×List Nat} {ps:List (Nat×List Nat)}:PW F (p::q::ps)=(F p∧PW F (q::ps)):=rfl
theorem SU {F:Nat×List Nat→Prop}:∀ {ps:List (Nat×List Nat)},PW F ps→∀ p∈ps,F p
 | [],_,p,hp=>by cases hp
 | q::ps,h,p,hp=>by
   rcases List.mem_cons.1 hp with rfl|hp
   · exact h.1
   · exact SU h.2 p hp
theorem BN {N T:List (Nat×List Nat)} {sl0:List Ah} {n:Nat} (ps:List (Nat×List Nat)) (h:T.filter (NP (BF ops.toList) T)=ps) (h2:PW (fun p=>GB P m ops N sl0 (Oh P m ops N sl0 K n (T.erase p)) (Lq ops.toList [p]) σ) ps):Oh P m ops N sl0 K (n+1) T σ :=
 fun p hp hr=>SU h2 p (by rw[←h];exact Mb.2 ⟨hp,hr⟩)
theorem KG {n:Nat} {s b:Bool} {ops:Array Oper} (ts:List (Nat×List Nat)) (h:Pq ops ts=true) (h2:Kr P ⟨n,s,false,true⟩ ops ts (eP P ⟨n,s,false,true⟩ ops (Q .normal) ts) (KK ts 0 ops.toList) [] σ):TA P ⟨n,s,b,true⟩ ops Q σ:=.inl (.inr (.inr ⟨ts,h,h2⟩))
theorem FC:Bj P m ops K [] σ=K σ:=rfl
theorem GT {op:Op}:Bj P m ops K (⟨d,op,ty,pos,af,none⟩::rest) σ=WP P m ⟨d,op,ty,pos,af,none⟩ (Bj P m ops K rest) σ:=rfl
theorem CC {op:Op} (h:WP P m ⟨d,op,ty,pos,af,none⟩ (Bj P m ops K rest) σ=∃ x news,(H0 P m.st σ ⟨d,op,ty,pos,af,none⟩=some x∧news=[])∧Bj P m ops K rest (St.put ⟨σ.tmps,σ.slots++news⟩ d x)):Bj P m ops K (⟨d,op,ty,pos,af,none⟩::rest) σ=F7 P m ops K rest σ d (H0 P m.st σ ⟨d,op,ty,pos,af,none⟩):=by
 rw[GT];exact jX h
theorem H1:Bj P m ops K (⟨d,.move x,ty,pos,af,none⟩::rest) σ=Bj P m ops K rest (σ.put d (evalT P ty σ x)):=(CC rfl).trans UC
theorem D6:Bj P m ops K (⟨d,.assign x,ty,pos,af,none⟩::rest) σ=Bj P m ops K rest (σ.put d (evalT P ty σ x)):=(CC rfl).trans UC
def Ol (t a b:V):Option V :=
 match t with
 | .d (.bool t)=>some (Kb t a b)
 | _=>none
theorem H8:Bj P m ops K (⟨d,.pick x y z,ty,pos,af,none⟩::rest) σ=F7 P m ops K rest σ d (Ol (σ.eval x) (σ.eval y) (σ.eval z)):=CC rfl
theorem Fo {op:BinOp}:Bj P m ops K (⟨d,.binOp op t x y s,ty,pos,af,none⟩::rest) σ=F7 P m ops K rest σ d (GC P σ.slots t op (σ.eval x) (σ.eval y)):=CC rfl
theorem fQ {op:UnOp}:Bj P m ops K (⟨d,.unOp op t x,ty,pos,af,none⟩::rest) σ=F7 P m ops K rest σ d (zK op (σ.eval x)):=CC rfl
def pH (P:Program) (s t:TypeId) (x:V):Option V :=
 match P.underlying s,P.underlying t,x with
 | some _,some (.int k),.d (.int _ n)=>some (V.d (.int k (k.wrap n)))
 | _,_,_=>none
theorem VV:Bj P m ops K (⟨d,.convert s t x,ty,pos,af,none⟩::rest) σ=F7 P m ops K rest σ d (pH P s t (σ.eval x)):=CC rfl
def oS (P:Program) (t:TypeId) (sl:List Ah) (x:V):Option V :=
 match BO P t with
 | some _=>(Ko sl x).map fun (n:Nat)=>V.d (.int .i64 (n:Int))
 | none=>none
theorem UB:Bj P m ops K (⟨d,.call ⟨.builtin .len,#[x],#[t]⟩,ty,pos,af,none⟩::rest) σ=F7 P m ops K rest σ d (oS P t σ.slots (σ.eval x)):=CC rfl
def AAR (x y:V):Option V :=
 match [x,y] with
 | [.d (.int k a),.d (.int _ b)]=>some (V.d (.int k (if b > a then b else a)))
 | _=>none
def xM (x y:V):Option V :=
 match [x,y] with
 | [.d (.int k a),.d (.int _ b)]=>some (V.d (.int k (if b<a then b else a)))
 | _=>none
theorem nX {ts:Array TypeId}:Bj P m ops K (⟨d,.call ⟨.builtin .max,#[x,y],ts⟩,ty,pos,af,none⟩::rest) σ=F7 P m ops K rest σ d (AAR (σ.eval x) (σ.eval y)):=CC rfl
theorem nW {ts:Array TypeId}:Bj P m ops K (⟨d,.call ⟨.builtin .min,#[x,y],ts⟩,ty,pos,af,none⟩::rest) σ=F7 P m ops K rest σ d (xM (σ.eval x) (σ.eval y)):=CC rfl
def zX (P:Program) (t:TypeId) (sl:List Ah) (x i:V):Option V :=
 match Hk i with
 | some n=>Kw P t sl x n
 | none=>none
theorem RS:Bj P m ops K (⟨d,.indexAddr t x y,ty,pos,af,none⟩::rest) σ=F7 P m ops K rest σ d (zX P t σ.slots (σ.eval x) (σ.eval y)):=CC rfl
theorem IK:Bj P m ops K (⟨d,.load t x,ty,pos,af,none⟩::rest) σ=F7 P m ops K rest σ d (Ik P m.st t σ.slots (σ.eval x)):=CC rfl
theorem EJ:Bj P m ops K (⟨d,.fieldAddr t x f,ty,pos,af,none⟩::rest) σ=F7 P m ops K rest σ d (C7 P t σ.slots (σ.eval x) f):=CC rfl
theorem bF:Bj P m ops K (⟨d,.field t x f,ty,pos,af,none⟩::rest) σ=F7 P m ops K rest σ d (Q3 P t (σ.eval x) f):=CC rfl
def AAF (x:V) (i:Nat):Option V :=
 match x with
 | .tup xs=>xs[i]?
 | _=>none
theorem Vy:Bj P m ops K (⟨d,.extract x f,ty,pos,af,none⟩::rest) σ=F7 P m ops K rest σ d (AAF (σ.eval x) f):=CC rfl
def wN (sl:List Ah) (x:V):Option V :=
 match x with
 | .ptr s p=>match sl[s]? with
   | some (.var _ _)=>some (V.ptr s p)
   | _=>none
 | .cptr ds=>some (.cptr ds)
 | _=>none
theorem UQ:Bj P m ops K (⟨d,.nilCheck x,ty,pos,af,none⟩::rest) σ=F7 P m ops K rest σ d (wN σ.slots (σ.eval x)):=CC rfl
def jK (P:Program) (e:TypeId) (z:List V) (ps:List (Nat×V)):Option V:=(EV (fun i=>some (i*P.cellsOf e,P.cellsOf e)) z ps).map .agg
def lC (P:Program) (t:TypeId) (ps:List (Nat×V)):Option V :=
 match P.underlying t,Bn P t with
 | some (.struct _),some z=>(EV (Mx P t) z ps).map .agg
 | some (.array _ e),some z=>jK P e z ps
 | _,_=>none
theorem cT {ps:Array (Nat×Operand)}:Bj P m ops K (⟨d,.build t ps,ty,pos,af,none⟩::rest) σ=F7 P m ops K rest σ d (lC P t (ps.toList.map fun p=>(p.1,σ.eval p.2))):=CC rfl
def pO (P:Program) (m:Mode) (ops:Array Oper) (K:St→Prop) (rest:List Oper) (σ:St) (d:Option Tmp) (t:TypeId) (v:Option (List V)):Prop:=∃ z,v=some z∧Bj P m ops K rest (St.put ⟨σ.tmps,σ.slots++[.var t z]⟩ d (.ptr σ.slots.length 0))
theorem X7 {v:List V}:pO P m ops K rest σ d t (some v)=Bj P m ops K rest (St.put ⟨σ.tmps,σ.slots++[.var t v]⟩ d (.ptr σ.slots.length 0)):=by
 apply propext;constructor
 · rintro⟨x,h,hk⟩;cases h;exact hk
 · exact fun h=>⟨v,rfl,h⟩
theorem aM:Bj P m ops K (⟨d,.alloc t,ty,pos,af,none⟩::rest) σ=pO P m ops K rest σ d t (Bn P t):=by
 rw[GT];apply propext;constructor
 · rintro⟨x,news,⟨z,h1,rfl,rfl⟩,h2⟩;exact⟨z,h1,h2⟩
 · rintro⟨z,h1,h2⟩;exact⟨_,_,⟨z,h1,rfl,rfl⟩,h2⟩
theorem UM:Bj P m ops K (⟨d,.box t x,ty,pos,af,none⟩::rest) σ=((Bh (σ.eval x)).all V.cell=true∧Bj P m ops K rest (St.put ⟨σ.tmps,σ.slots++[.var t (Bh (σ.eval x))]⟩ d (.ptr σ.slots.length 0))):=by
 rw[GT];apply propext;constructor
 · rintro⟨y,news,⟨h1,rfl,rfl⟩,h2⟩;exact⟨h1,h2⟩
 · rintro⟨h1,h2⟩;exact⟨_,_,⟨h1,rfl,rfl⟩,h2⟩
def F0 (P:Program) (m:Mode) (ops:Array Oper) (K:St→Prop) (rest:List Oper) (σ:St) (d:Option Tmp) (r:X):Prop:=Bj P m ops K rest (St.put ⟨σ.tmps,σ.slots++(inst σ.slots.length r).2⟩ d (inst σ.slots.length r).1)
def Tv (P:Program) (m:Mode) (ops:Array Oper) (K:St→Prop) (rest:List Oper) (σ:St) (d:Option Tmp) (fn:FuncId) (p:Option (List X)) (xs:List V):Prop :=
 (∃ r,jJ P fn p r∧F0 P m ops K rest σ d r)∨(ZY P m σ.slots fn xs (fun z sl'=>Bj P m ops K rest (St.put ⟨σ.tmps,sl'⟩ d z))∨jY P m σ.slots fn xs fun z sl'=>Bj P m ops K rest (St.put ⟨σ.tmps,sl'⟩ d z))
def Ze (P:Program) (m:Mode) (ops:Array Oper) (K:St→Prop) (rest:List Oper) (σ:St) (d:Option Tmp) (v:V) (xs:List V):Prop :=
 match v with
 | .fn f caps=>Tv P m ops K rest σ d f (EB σ.slots (xs++caps)) (xs++caps)
 | _=>False
theorem lQ {f:FuncId} {caps xs:List V}:Ze P m ops K rest σ d (.fn f caps) xs=Tv P m ops K rest σ d f (EB σ.slots (xs++caps)) (xs++caps):=rfl
theorem aP {v:Operand} {args:Array Operand} {ts:Array TypeId}:Bj P m ops K (⟨d,.call ⟨.value v,args,ts⟩,ty,pos,af,none⟩::rest) σ=Ze P m ops K rest σ d (σ.eval v) (args.toList.map σ.eval):=by
 rw[GT];unfold Ze Tv F0;show ((∃ x news,AQ P m.st σ.slots.length σ _ x news∧_)∨(match σ.eval v with | .fn f caps=>_|_=>False))=_;unfold AQ;simp only;generalize σ.eval v=g
 cases g with
 | fn f caps =>
   simp only;apply propext;constructor
   · rintro (⟨y,news,⟨r,h1,rfl,rfl⟩,h2⟩|h)
     · exact .inl ⟨r,h1,h2⟩
     · exact .inr h
   · rintro (⟨r,h1,h2⟩|h)
     · exact .inl ⟨_,_,⟨r,h1,rfl,rfl⟩,h2⟩
     · exact .inr h
 | _=>simp
theorem MQ {fn:FuncId} {args:Array Operand} {ts:Array TypeId}:Bj P m ops K (⟨d,.call ⟨.value (.func fn),args,ts⟩,ty,pos,af,none⟩::rest) σ=Tv P m ops K rest σ d fn (EB σ.slots (args.toList.map σ.eval)) (args.toList.map σ.eval):=by
 rw[aP];show Ze P m ops K rest σ d (.fn fn []) _=_;rw[lQ,List.append_nil]
theorem Ab {fn:FuncId} {xs:List X} {ys:List V} {r:X} (h:BA P fn xs r) (h2:F0 P m ops K rest σ d r):Tv P m ops K rest σ d fn (some xs) ys:=.inl ⟨r,zB h,h2⟩
def XJ (sl:List Ah) (ks π:List Nat) (xs args:List V) (slc:List Ah):Prop :=
 BP slc∧ks.Nodup∧Jv sl ks∧π.Nodup∧EQ true (kill ks sl) π π slc∧HW true (kill ks sl) π (xs.map (Lo sl ks)) args
def jN (P:Program) (m:Mode) (ops:Array Oper) (K:St→Prop) (rest:List Oper) (T:List V) (d:Option Tmp) (sl:List Ah) (π:List Nat) (r':Option V) (ys:Option (List Ah)):Prop :=
 ∃ r ys',r'=some r∧ys=some ys'∧Bj P m ops K rest (St.put ⟨T,B1 sl π (ys'.take π.length)++ys'.drop π.length⟩ d r)
theorem Ve {T:List V} {sl:List Ah} {π:List Nat} {r:V} {ys:List Ah}:jN P m ops K rest T d sl π (some r) (some ys)=Bj P m ops K rest (St.put ⟨T,B1 sl π (ys.take π.length)++ys.drop π.length⟩ d r):=by
 apply propext;constructor
 · rintro⟨_,_,h1,h2,h⟩;cases h1;cases h2;exact h
 · exact fun h=>⟨_,_,rfl,rfl,h⟩
theorem Ac {n:Nat} {fn:FuncId} {p:Option (List X)} {xs args:List V} {slc slc':List Ah} {r:V} (h:CM P fn args slc r slc') (ks π:List Nat) (he:XJ σ.slots ks π xs args slc)
 (ha:jN P ⟨n,false,true,dr⟩ ops K rest σ.tmps d (kill ks σ.slots) π (bD (π++List.range' (kill ks σ.slots).length (slc'.length - π.length)) r) (MC (π++List.range' (kill ks σ.slots).length (slc'.length - π.length)) slc')):Tv P ⟨n,false,true,dr⟩ ops K rest σ d fn p xs:=by
 obtain⟨h1,h2,h3,h4,h5,h6⟩:=he;obtain⟨r',ys,k1,k2,k3⟩:=ha;exact .inr (.inl ⟨rfl,rfl,ks,π,args,slc,r,slc',h,h1,h2,h3,h4,h5,h6,r',ys,k1,k2,k3⟩)
theorem Ax {n:Nat} {b:Bool} {N:List (Nat×List Nat)} {sl0:List Ah} {ns:List Nat} {T:List (Oper×List Nat)} {fn:FuncId} {xs near args:List V} {slc slc':List Ah} {r:V} (h:CM P fn args slc r slc') (ks π:List Nat) (he:XJ σ.slots ks π xs args slc) (hn:∀ k∈ks++π,Bc σ.slots near k)
 (ha:gH P ⟨n,false,b,dr⟩ ops N sl0 K ns T σ.tmps d (kill ks σ.slots) π (bD (π++List.range' (kill ks σ.slots).length (slc'.length - π.length)) r) (MC (π++List.range' (kill ks σ.slots).length (slc'.length - π.length)) slc')):UO P ⟨n,false,b,dr⟩ ops N sl0 K ns T σ d fn xs near:=by
 obtain⟨h1,h2,h3,h4,h5,h6⟩:=he;obtain⟨r',ys,k1,k2,k3⟩:=ha;exact⟨rfl,ks,π,args,slc,r,slc',h,h1,h2,h3,h4,h5,h6,hn,r',ys,k1,k2,k3⟩
def lD (P:Program) (t:TypeId) (σ:St) (x:V) (lo hi:Option Operand):Option V :=
 match Ko σ.slots x with
 | some n=>Vq P t x (DC σ lo 0) (DC σ hi n)
 | none=>none
def XK (P:Program) (t:TypeId) (σ:St) (s:Nat) (lo hi:Option Operand):Option (V×List Ah) :=
 match Ko σ.slots (.ref s) with
 | some n=>QW P t σ.slots s lo hi (DC σ lo 0) (DC σ hi n)
 | none=>none
def lH (P:Program) (m:Mode) (ops:Array Oper) (K:St→Prop) (rest:List Oper) (σ:St) (d:Option Tmp) (v:Option (V×List Ah)):Prop:=m.tc=true∧m.st=false∧∃ z sl',v=some (z,sl')∧Bj P m ops K rest (St.put ⟨σ.tmps,sl'⟩ d z)
theorem Y4 {z:V} {sl':List Ah}:lH P m ops K rest σ d (some (z,sl'))=(m.tc=true∧m.st=false∧Bj P m ops K rest (St.put ⟨σ.tmps,sl'⟩ d z)):=by
 apply propext;constructor
 · rintro⟨h1,h2,_,_,h,hk⟩;cases h;exact⟨h1,h2,hk⟩
 · exact fun ⟨h1,h2,h⟩=>⟨h1,h2,_,_,rfl,h⟩
def Yw (P:Program) (m:Mode) (ops:Array Oper) (K:St→Prop) (rest:List Oper) (σ:St) (d:Option Tmp) (t:TypeId) (x:V) (lo hi:Option Operand):Prop :=
 match x with
 | .ref s=>lH P m ops K rest σ d (XK P t σ s lo hi)
 | x=>F7 P m ops K rest σ d (lD P t σ x lo hi)
theorem bE {lo hi:Option Operand}:Bj P m ops K (⟨d,.slice t x lo hi none,ty,pos,af,none⟩::rest) σ=Yw P m ops K rest σ d t (σ.eval x) lo hi:=by
 rw[GT];unfold Yw
 have quiet:∀ v,σ.eval x=v→(∃ z news,AQ P m.st σ.slots.length σ ⟨d,.slice t x lo hi none,ty,pos,af,none⟩ z news∧Bj P m ops K rest (St.put ⟨σ.tmps,σ.slots++news⟩ d z))=F7 P m ops K rest σ d (lD P t σ v lo hi):=by
  rintro v rfl;unfold F7;apply propext;constructor
  · rintro⟨z,news,⟨h1,rfl⟩,h2⟩;rw[List.append_nil] at h2;exact⟨z,h1,h2⟩
  · rintro⟨z,h1,h2⟩;exact⟨z,[],⟨h1,rfl⟩,by rw[List.append_nil];exact h2⟩
 cases hv:σ.eval x with
 | ref s =>
   show (match σ.eval x with | .ref s=>_|_=>_)=_;rw[hv];simp only;unfold lH XK;apply propext;constructor
   · rintro⟨h1,h2,n,z,sl',h3,h4,h5⟩;refine⟨h1,h2,z,sl',?_,h5⟩;rw[h3];exact h4
   · rintro⟨h1,h2,z,sl',h3,h4⟩;split at h3
     · rename_i n hn;exact⟨h1,h2,n,z,sl',hn,h3,h4⟩
     · cases h3
 | _ =>
   show (match σ.eval x with | .ref s=>_|_=>_)=_;rw[hv];simp only;exact quiet _ hv
def pA (f:FuncId) (first:Array Operand) (caps:List V):Option V:=if first.isEmpty=true then some (.fn f caps) else none
theorem UG {fn:FuncId} {first caps:Array Operand}:Bj P m ops K (⟨d,.makeFunc (.func fn) first caps,ty,pos,af,none⟩::rest) σ=F7 P m ops K rest σ d (pA fn first (caps.toList.map σ.eval)):=CC rfl
def pG (P:Program) (m:Mode) (ops:Array Oper) (K:St→Prop) (rest:List Oper) (σ:St) (d:Option Tmp) (v:Option (List Ah)):Prop:=∃ sl',v=some sl'∧Bj P m ops K rest (St.put ⟨σ.tmps,sl'⟩ d .any)
theorem Xz {v:List Ah}:pG P m ops K rest σ d (some v)=Bj P m ops K rest (St.put ⟨σ.tmps,v⟩ d .any):=by
 apply propext;constructor
 · rintro⟨x,h,hk⟩;cases h;exact hk
 · exact fun h=>⟨v,rfl,h⟩
def pF (P:Program) (m:Mode) (ops:Array Oper) (K:St→Prop) (rest:List Oper) (σ:St) (d:Option Tmp) (t:TypeId) (ok:Bool) (q:Option (Nat×TypeId×List (Ky×Vl))) (k:Option Ky) (z:Option Vl):Prop :=
 ∃ s es ky z',q=some (s,t,es)∧k=some ky∧z=some z'∧F5 P t ky∧Bj P m ops K rest (σ.put d (TL ok (FQ es ky) z'))
theorem YJ {ok:Bool} {s:Nat} {t':TypeId} {es:List (Ky×Vl)} {ky:Ky} {z:Vl}:pF P m ops K rest σ d t ok (some (s,t',es)) (some ky) (some z)=(t'=t∧F5 P t ky∧Bj P m ops K rest (σ.put d (TL ok (FQ es ky) z))):=by
 apply propext;constructor
 · rintro⟨_,_,_,_,h1,h2,h3,h4,h5⟩;cases h1;cases h2;cases h3;exact⟨rfl,h4,h5⟩
 · rintro⟨rfl,h4,h5⟩;exact⟨_,_,_,_,rfl,rfl,rfl,h4,h5⟩
theorem XE {ok:Bool}:Bj P m ops K (⟨d,.lookup t x y ok,ty,pos,af,none⟩::rest) σ=pF P m ops K rest σ d t ok (Jg σ.slots (σ.eval x)) (O2 (σ.eval y)) (J5 P t):=by
 rw[GT];apply propext;constructor
 · rintro⟨v,news,⟨s,es,ky,z,h1,h2,h3,h4,rfl,rfl⟩,h6⟩;rw[List.append_nil] at h6;exact⟨s,es,ky,z,h1,h2,h3,h4,h6⟩
 · rintro⟨s,es,ky,z,h1,h2,h3,h4,h6⟩;exact⟨_,[],⟨s,es,ky,z,h1,h2,h3,h4,rfl,rfl⟩,by rw[List.append_nil];exact h6⟩
theorem Vf:Bj P m ops K (⟨d,.makeMap t none,ty,pos,af,none⟩::rest) σ=Bj P m ops K rest (St.put ⟨σ.tmps,σ.slots++[.blk (.mp t [])]⟩ d (.ref σ.slots.length)):=by
 rw[GT];apply propext;constructor
 · rintro⟨v,news,⟨rfl,rfl⟩,h6⟩;exact h6
 · exact fun h=>⟨_,_,⟨rfl,rfl⟩,h⟩
def vY (P:Program) (m:Mode) (ops:Array Oper) (K:St→Prop) (rest:List Oper) (σ:St) (d:Option Tmp) (t:TypeId) (q:Option (Nat×TypeId×List (Ky×Vl))) (k:Option Ky) (v:Option Vl):Prop :=
 m.tc=true∧∃ s es ky v',q=some (s,t,es)∧k=some ky∧v=some v'∧F5 P t ky∧Bj P m ops K rest (St.put ⟨σ.tmps,σ.slots.set s (.blk (.mp t (Ho es ky v')))⟩ d .any)
theorem dX {s:Nat} {t':TypeId} {es:List (Ky×Vl)} {ky:Ky} {v:Vl}:vY P m ops K rest σ d t (some (s,t',es)) (some ky) (some v)=(m.tc=true∧t'=t∧F5 P t ky∧Bj P m ops K rest (St.put ⟨σ.tmps,σ.slots.set s (.blk (.mp t (Ho es ky v)))⟩ d .any)):=by
 apply propext;constructor
 · rintro⟨h0,_,_,_,_,h1,h2,h3,h4,h5⟩;cases h1;cases h2;cases h3;exact⟨h0,rfl,h4,h5⟩
 · rintro⟨h0,rfl,h4,h5⟩;exact⟨h0,_,_,_,_,rfl,rfl,rfl,h4,h5⟩
theorem Sa:Bj P m ops K (⟨d,.mapUpdate t x y z,ty,pos,af,none⟩::rest) σ=vY P m ops K rest σ d t (Jg σ.slots (σ.eval x)) (O2 (σ.eval y)) (bM (σ.eval z)):=rfl
theorem dT:Bj P m ops K (⟨d,.store t x y,ty,pos,af,none⟩::rest) σ=pG P m ops K rest σ d (IC P m.st t σ.slots (σ.eval x) (evalT P t σ y)):=rfl
def gS (P:Program) (m:Mode) (ops:Array Oper) (K:St→Prop) (rest:List Oper) (σ:St) (d:Option Tmp) (t:TypeId) (x y:V):Prop:=pL P m σ.slots t x y fun z sl'=>Bj P m ops K rest (St.put ⟨σ.tmps,sl'⟩ d z)
theorem X4:Bj P m ops K (⟨d,.call ⟨.builtin .append,#[x,y],#[t,t]⟩,ty,pos,af,none⟩::rest) σ=gS P m ops K rest σ d t (evalT P t σ x) (evalT P t σ y):=by
 rw[GT];show (t=t∧_)=_;simp only[true_and];rfl
def iA (P:Program) (m:Mode) (ops:Array Oper) (K:St→Prop) (rest:List Oper) (σ:St) (d:Option Tmp) (v:Option (V×Ah)):Prop:=∃ x y,v=some (x,y)∧Bj P m ops K rest (St.put ⟨σ.tmps,σ.slots++[y]⟩ d x)
theorem YY {v:V} {y:Ah}:iA P m ops K rest σ d (some (v,y))=Bj P m ops K rest (St.put ⟨σ.tmps,σ.slots++[y]⟩ d v):=by
 apply propext;constructor
 · rintro⟨x,y,h,hk⟩;cases h;exact hk
 · exact fun h=>⟨v,y,rfl,h⟩
def qV (n:Nat) (e:TypeId) (s len:Nat) (cells:List V):V×Ah :=
 match B0 cells with
 | some ds=>(.ref n,.arr e (cells.all GY) (Cn s len ds))
 | none=>(.lit n len,.var e cells)
def oG (P:Program) (n:Nat) (t:TypeId) (len:Nat) (ps:List (Nat×V)):Option (V×Ah) :=
 match BO P t with
 | none=>none
 | some e=>match Bn P e with
   | none=>none
   | some z=>if len*z.length≤16777216∧len≤9223372036854775807 then (EV (fun i=>some (i*z.length,z.length)) (List.replicate len z).flatten ps).map (qV n e z.length len) else none
theorem ZA {n t len:Nat} {ps:List (Nat×V)}:gL P σ n t len ps=oG P n t len ps:=by
 unfold gL oG
 cases he:BO P t with
 | none=>rfl
 | some e =>
   simp only
   cases hz:Bn P e with
   | none=>rfl
   | some z =>
     simp only;split
     · cases hf:EV (fun i=>some (i*z.length,z.length)) (List.replicate len z).flatten ps with
       | none=>rfl
       | some cells=>simp only[Option.map_some,qV];cases B0 cells<;>rfl
     · rfl
def Uh (P:Program) (b:Bool) (sl:List Ah) (t:TypeId) (len:Nat) (ps:List (Nat×V)):Option (Ah×List Nat) :=
 if b=true then
  match BO P t with
  | none=>none
  | some e=>match Bn P e with
    | none=>none
    | some z=>if len*z.length≤16777216∧len≤9223372036854775807 then (EV (fun i=>some (i*z.length,z.length)) (List.replicate len z).flatten ps).bind (Uj e z.length len sl) else none
 else none
theorem bR {b:Bool} {sl:List Ah} {t len:Nat} {ps:List (Nat×V)}:J3 P b sl t len ps=Uh P b sl t len ps:=by
 unfold J3 Uh
 cases b with
 | false=>rfl
 | true =>
   simp only[if_true]
   cases he:BO P t with
   | none=>rfl
   | some e =>
     simp only
     cases hz:Bn P e with
     | none=>rfl
     | some z =>
       simp only;split
       · cases hf:EV (fun i=>some (i*z.length,z.length)) (List.replicate len z).flatten ps<;>rfl
       · rfl
def Vk (P:Program) (m:Mode) (ops:Array Oper) (K:St→Prop) (rest:List Oper) (σ:St) (d:Option Tmp) (q:Option (Ah×List Nat)) (v:Option (V×Ah)):Prop :=
 match q with
 | some (y,ks)=>Bj P m ops K rest (St.put ⟨σ.tmps,kill ks σ.slots++[y]⟩ d (.ref σ.slots.length))
 | none=>iA P m ops K rest σ d v
theorem XA {y:Ah} {ks:List Nat} {v:Option (V×Ah)}:Vk P m ops K rest σ d (some (y,ks)) v=Bj P m ops K rest (St.put ⟨σ.tmps,kill ks σ.slots++[y]⟩ d (.ref σ.slots.length)):=rfl
theorem YQ {v:Option (V×Ah)}:Vk P m ops K rest σ d none v=iA P m ops K rest σ d v:=rfl
@[congr] theorem pK {q q':Option (Ah×List Nat)} {v:Option (V×Ah)} (h:q=q'):Vk P m ops K rest σ d q v=Vk P m ops K rest σ d q' v:=by rw[h]
theorem Rh {ps:Array (Nat×Operand)}:Bj P m ops K (⟨d,.buildSlice t n ps,ty,pos,af,none⟩::rest) σ=Vk P m ops K rest σ d (Uh P (m.tc&&!m.st) σ.slots t n (ps.toList.map fun p=>(p.1,σ.eval p.2))) (oG P σ.slots.length t n (ps.toList.map fun p=>(p.1,σ.eval p.2))):=by
 rw[GT];unfold WP;simp only;rw[bR];split
 · rename_i hq;rw[hq];rfl
 · rename_i hq;rw[hq];apply propext;constructor
   · rintro⟨x,news,⟨y,h1,rfl⟩,h2⟩;exact⟨x,y,ZA (σ:=σ)▸h1,h2⟩
   · rintro⟨x,y,h1,h2⟩;exact⟨_,_,⟨y,by rw[ZA];exact h1,rfl⟩,h2⟩
def Zs (P:Program) (t:TypeId) (x y:V):Option (Int×Int×TypeId×List D) :=
 match BO P t,Hk x,Hk y with
 | some e,some m,some m'=>match Bn P e with
   | some z=>match B0 z with
     | some zd=>if z.all GY=true∧P.bytesOf e≤128 then some (m,m',e,zd) else none
     | none=>none
   | none=>none
 | _,_,_=>none
def pN (P:Program) (m:Mode) (ops:Array Oper) (K:St→Prop) (rest:List Oper) (σ:St) (d:Option Tmp) (v:Option (Int×Int×TypeId×List D)):Prop:=∃ q e zd,v=some (q,q,e,zd)∧(0≤q∧q≤1099511627776)∧Bj P m ops K rest (St.put ⟨σ.tmps,σ.slots++[.arr e true (List.replicate q.toNat zd)]⟩ d (.ref σ.slots.length))
theorem XC {q:Int} {e:TypeId} {zd:List D}:pN P m ops K rest σ d (some (q,q,e,zd))=((0≤q∧q≤1099511627776)∧Bj P m ops K rest (St.put ⟨σ.tmps,σ.slots++[.arr e true (List.replicate q.toNat zd)]⟩ d (.ref σ.slots.length))):=by
 apply propext;constructor
 · rintro⟨q,e,zd,h,hk⟩;cases h;exact hk
 · exact fun h=>⟨q,e,zd,rfl,h⟩
theorem R6:Bj P m ops K (⟨d,.makeSlice t x y,ty,pos,af,none⟩::rest) σ=pN P m ops K rest σ d (Zs P t (σ.eval x) (σ.eval y)):=by
 rw[GT];apply propext;constructor
 · rintro⟨x,news,⟨e,z,zd,q,h1,h2,h3,h4,h5,h6,h7,h8,h9,rfl,rfl⟩,h10⟩;refine⟨q,e,zd,?_,⟨h7,h8⟩,h10⟩;unfold Zs;rw[h1,h5,h6];simp only[h2,h3];rw[if_pos ⟨h4,h9⟩]
 · rintro⟨q,e,zd,h,⟨h7,h8⟩,h10⟩;unfold Zs at h;split at h
   · rename_i e' m1 m2 h1 h5 h6;split at h
     · rename_i z h2;split at h
       · rename_i zd' h3;split at h
         · rename_i h4
           cases h
           exact⟨_,_,⟨e,z,zd,q,h1,h2,h3,h4.1,h5,h6,h7,h8,h4.2,rfl,rfl⟩,h10⟩
         · cases h
       · cases h
     · cases h
   · cases h
def Ra (P:Program) (m:Mode) (ops:Array Oper) (K:St→Prop) (o:Oper) (rest:List Oper) (σ:St) (dj:Nat) (b:Bool) (v:V):Prop :=
 match v with
 | .d (.bool t)=>KH (t==b) (Bj P m ops K (o::rest) (σ.put (some dj) (.d (.bool b)))) (Bj P m ops K rest ((σ.put (some dj) (.d (.bool (!b)))).put o.dst (.tup [])))
 | .tup []=>Bj P m ops K rest (σ.put o.dst (.tup []))
 | _=>False
theorem E4 {o:Oper} {dj:Nat} {b t:Bool}:Ra P m ops K o rest σ dj b (.d (.bool t))=Xs (t==b) (Bj P m ops K (o::rest) (σ.put (some dj) (.d (.bool b)))) (Bj P m ops K rest ((σ.put (some dj) (.d (.bool (!b)))).put o.dst (.tup []))):=rfl
theorem UA {o:Oper} {dj:Nat} {b:Bool}:Ra P m ops K o rest σ dj b (.tup [])=Bj P m ops K rest (σ.put o.dst (.tup [])):=rfl
def YX (P:Program) (m:Mode) (ops:Array Oper) (K:St→Prop) (o:Oper) (rest:List Oper) (σ:St) (b:Bool) (dj:Option Nat):Prop :=
 match dj with
 | some d=>Ra P m ops K o rest σ d b (σ.get d)
 | none=>False
theorem EU {o:Oper} {dj:Nat} {b:Bool}:YX P m ops K o rest σ b (some dj)=Ra P m ops K o rest σ dj b (σ.get dj):=rfl
theorem GK {op:Op} {j:Nat} {b:Bool}:Bj P m ops K (⟨d,op,ty,pos,af,some (j,b)⟩::rest) σ=YX P m ops K ⟨d,op,ty,pos,af,none⟩ rest σ b ((ops[j]?).bind (·.dst)):=by
 have e:∀ σ',Bj P m ops K (⟨d,op,ty,pos,af,none⟩::rest) σ'=WP P m ⟨d,op,ty,pos,af,some (j,b)⟩ (Bj P m ops K rest) σ':=fun σ'=>rfl;unfold YX
 conv=>lhs;unfold Bj
 simp only
 cases hd:(ops[j]?).bind (·.dst) with
 | none=>rfl
 | some dj =>
   simp only;unfold Ra
   cases hv:σ.get dj with
   | d x=>cases x with
     | bool t =>
       simp only[KH,e]
       cases t<;>cases b<;>simp
     | _=>rfl
   | tup xs=>cases xs<;>rfl
   | _=>rfl
end
def VE {ι:Type} (m:Mode) (I:ι→Prop) (S:ι→St) (μ:ι→Nat) (i:ι) (σ':St):Prop:=∃ j,I j∧μ j<μ i∧Le m σ' (S j)
theorem nL {c:Code} {ι:Type} (I:ι→Prop) (S:ι→St) (μ:ι→Nat) (i0:ι) (h0:I i0) (hle:Le m σ (S i0)) (hr:∀ i,I i→IG P m c (Hc (VE m I S μ i) Q) (S i)):IG P m (.loop c) Q σ :=
 ⟨ι,I,S,μ,i0,h0,hle,hr⟩
end
def frame (n:Nat) (l:List (Nat×V)):List V:=l.foldl (fun T p=>T.set p.1 p.2) (List.replicate n .any)
theorem Ad {x:Int} (h1:-9223372036854775808≤x) (h2:x≤9223372036854775807):IntKind.i64.wrap x=x:=by rw[IntKind.wrap_i64];omega
theorem nN (k:Nat):((k:Int)<0)=False:=by
 apply propext;constructor
 · intro h;omega
 · exact False.elim
def DX (n lo hi:Int):Bool:=decide (lo≤n)&&decide (n≤hi)
theorem Bb {α:Type} {xs:List α} {k:Nat} {x:α} (hx:xs[k]? = some x):xs.take (k+1)=xs.take k++[x]:=by
 obtain⟨hk,rfl⟩:=BZ.1 hx;exact List.take_succ_eq_append_getElem hk
theorem De {α:Type} {xs:List α} {p:α→Bool} {k:Nat} {x:α} (hx:xs[k]? = some x):(xs.take (k+1)).all p=((xs.take k).all p&&p x):=by
 rw[Bb hx];simp
theorem E5 {α:Type} {xs:List α} {p:α→Bool} {k:Nat} {x:α} (hx:xs[k]? = some x) (h:p x=false):xs.all p=false:=by
 rw[Bool.eq_false_iff,ne_eq,GA];intro hh;have:=hh x (D4 hx);rw[h] at this
 cases this
theorem Xp {P:Program} {m:Mode} {Q:Exit→St→Prop} {σ:St} {c:Code} {ι:Type} (I:ι→Prop) (S:ι→St) (μ:ι→Nat) (i0:ι) (h0:I i0) (hle:Le m σ (S i0))
 (hr:∀ (I':ι→Prop) (S':ι→St) (μ':ι→Nat),(∀ i,I' i↔I i)→(∀ i,S' i=S i)→(∀ i,μ' i=μ i)→∀ i,I i→IG P m c (Hc (VE m I' S' μ' i) Q) (S i)):IG P m (.loop c) Q σ :=
 nL I S μ i0 h0 hle fun i hi=>hr I S μ (fun _=>Iff.rfl) (fun _=>rfl) (fun _=>rfl) i hi
theorem Ae {m:Mode} {ι:Type} {I I':ι→Prop} {S S':ι→St} {μ μ':ι→Nat} {i:ι} {σ':St} (hI:∀ i,I' i↔I i) (hS:∀ i,S' i=S i) (hμ:∀ i,μ' i=μ i) (j:ι) (h1:I j) (h2:μ j<μ i) (h3:Le m σ' (S j)):VE m I' S' μ' i σ' :=
 ⟨j,(hI j).2 h1,by rw[hμ,hμ];exact h2,by rw[hS];exact h3⟩
def JR:List Bool→List V→List V
 | true::ms,x::xs=>x::JR ms xs
 | false::ms,_::xs=>.any::JR ms xs
 | [],_::xs=>.any::JR [] xs
 | _,[]=>[]
def sets {α:Type} (xs:List α):List (Nat×α)→List α
 | []=>xs
 | p::ps=>sets (xs.set p.1 p.2) ps
theorem AB {P:Program} {m:Mode} {Q:Exit→St→Prop} {c:Code} {T:List V} {sl0:List Ah} {ι:Type} (mask:List Bool) (I:ι→Prop) (upd:ι→List (Nat×V)) (usl:ι→List (Nat×Ah)) (μ:ι→Nat) (i0:ι) (h0:I i0)
 (hle:Le m ⟨T,sl0⟩ ⟨sets (JR mask T) (upd i0),sets sl0 (usl i0)⟩)
 (hr:∀ (I':ι→Prop) (S':ι→St) (μ':ι→Nat),(∀ i,I' i↔I i)→(∀ i,S' i=⟨sets (JR mask T) (upd i),sets sl0 (usl i)⟩)→(∀ i,μ' i=μ i)→∀ i,I i→IG P m c (Hc (VE m I' S' μ' i) Q) ⟨sets (JR mask T) (upd i),sets sl0 (usl i)⟩):IG P m (.loop c) Q ⟨T,sl0⟩ :=
 Xp I (fun i=>⟨sets (JR mask T) (upd i),sets sl0 (usl i)⟩) μ i0 h0 hle hr
def DD (a b:Int):Int:=a.fdiv (2 ^ min b.toNat 64)
def ES (a b:Int):Int:=IntKind.i64.wrap (a*2 ^ min b.toNat 64)
def C0 (a b:Int):Int:=IntKind.i64.wrap (BitVec.ofInt 64 a &&& BitVec.ofInt 64 b).toNat
def Yq (a b:Int):Int:=IntKind.i64.wrap (BitVec.ofInt 64 a ||| BitVec.ofInt 64 b).toNat
def Bm (a b:Int):Int:=IntKind.i64.wrap (BitVec.ofInt 64 a ^^^ BitVec.ofInt 64 b).toNat
def FK (a b:Int):Int:=IntKind.i64.wrap (BitVec.ofInt 64 a &&& ~~~BitVec.ofInt 64 b).toNat
section
variable {P:Program} {t:TypeId} {k k':IntKind} {a b:Int} {x y:Bool}
theorem jM:DL P t .add (.d (.int k a)) (.d (.int k b))=some (.d (.int k (k.wrap (a+b)))):=by simp[DL]
theorem Xn:DL P t .sub (.d (.int k a)) (.d (.int k b))=some (.d (.int k (k.wrap (a - b)))):=by simp[DL]
theorem jZ:DL P t .mul (.d (.int k a)) (.d (.int k b))=some (.d (.int k (k.wrap (a*b)))):=by simp[DL]
theorem lT:DL P t .quo (.d (.int k a)) (.d (.int k b))=if b=0 then none else some (.d (.int k (k.wrap (a.tdiv b)))):=by simp[DL]
theorem kW:DL P t .rem (.d (.int k a)) (.d (.int k b))=if b=0 then none else some (.d (.int k (a.tmod b))):=by simp[DL]
theorem iJ:DL P t .and (.d (.int .i64 a)) (.d (.int .i64 b))=some (.d (.int .i64 (C0 a b))):=rfl
theorem nF:DL P t .or (.d (.int .i64 a)) (.d (.int .i64 b))=some (.d (.int .i64 (Yq a b))):=rfl
theorem kZ:DL P t .xor (.d (.int .i64 a)) (.d (.int .i64 b))=some (.d (.int .i64 (Bm a b))):=rfl
theorem Vi:DL P t .andNot (.d (.int .i64 a)) (.d (.int .i64 b))=some (.d (.int .i64 (FK a b))):=rfl
theorem V2:DL P t .shl (.d (.int .i64 a)) (.d (.int k b))=if 0≤b then some (.d (.int .i64 (ES a b))) else none:=by simp[DL,ES,IntKind.bits]
theorem jG:DL P t .shr (.d (.int .i64 a)) (.d (.int k b))=if 0≤b then some (.d (.int .i64 (DD a b))) else none:=by simp[DL,DD,IntKind.bits]
theorem Sn:DL P t .shl (.d (.int .u64 a)) (.d (.int k b))=if 0≤b then some (.d (.int .u64 (IntKind.u64.wrap (a*2 ^ min b.toNat 64)))) else none:=by simp[DL,IntKind.bits]
theorem ME:DL P t .eql (.d (.int k a)) (.d (.int k b))=some (.d (.bool (a==b))):=by simp[DL]
theorem mJ {sl:List Ah} {op:BinOp} {x:V} {y:D}:GC P sl t op x (.d y)=DL P t op x (.d y):=rfl
theorem cH {sl:List Ah} {op:BinOp} {x:V} {ys:List V}:GC P sl t op x (.agg ys)=DL P t op x (.agg ys):=rfl
theorem lP {a c:Int} {b d:Bool} (h:WZ P t=true):DL P t .eql (.agg [.d (.int .i64 a),.d (.bool b)]) (.agg [.d (.int .i64 c),.d (.bool d)])=some (.d (.bool (a==c&&b==d))):=by simp[DL,h]
theorem lU {a b c d:Int} (h:KB P t=true):DL P t .eql (.agg [.d (.int .i64 a),.d (.int .i64 b)]) (.agg [.d (.int .i64 c),.d (.int .i64 d)])=some (.d (.bool (a==c&&b==d))):=by simp[DL,h]
theorem gI:DL P t .neq (.d (.int k a)) (.d (.int k b))=some (.d (.bool (a != b))):=by simp[DL]
theorem iN:DL P t .lss (.d (.int k a)) (.d (.int k b))=some (.d (.bool (decide (a<b)))):=by simp[DL]
theorem Md:DL P t .leq (.d (.int k a)) (.d (.int k b))=some (.d (.bool (decide (a≤b)))):=by simp[DL]
theorem fE:DL P t .gtr (.d (.int k a)) (.d (.int k b))=some (.d (.bool (decide (a > b)))):=by simp[DL]
theorem MD:DL P t .geq (.d (.int k a)) (.d (.int k b))=some (.d (.bool (decide (a≥b)))):=by simp[DL]
theorem aL (h:P.underlying t=some .bool):DL P t .eql (.d (.bool x)) (.d (.bool y))=some (.d (.bool (x==y))):=by simp[DL,h]
theorem dW (h:P.underlying t=some .bool):DL P t .neq (.d (.bool x)) (.d (.bool y))=some (.d (.bool (!(x==y)))):=by simp[DL,h]
end
section
variable {P:Program} {m:Mode} {ops:Array Oper} {K:St→Prop} {rest:List Oper} {σ:St} {d:Option Tmp} {t e:TypeId} {dr:Bool}
theorem Z4 {sl:List Ah} {x y:V} {K:V→List Ah→Prop} {ow:Bool} {es es2:List (List D)} {ks:List Nat} {o:Option Nat} (he:BO P t=some e) (hb:Iv sl e x=some (ow,es,ks)) (hz:(Bn P e).isSome=true∧P.cellsOf e≠0∧P.bytesOf e≤128)
 (hs:P8 sl y=some (es2,o)) (ho:∀ s,o=some s→s∉ks) (hc:∀ c∈es2,c.length=P.cellsOf e) (hl:es.length+es2.length≤1099511627776) (hf:ow=true→AR es2) (hK:K (.ref sl.length) (kill ks sl++[.arr e ow (es++es2)])):MT P sl t x y K :=
 ⟨e,ow,es,ks,he,hb,hz.1,hz.2.1,hz.2.2,.inl ⟨es2,o,hs,ho,hc,hl,hf,hK⟩⟩
theorem Ak {x y:V} {ow:Bool} {es es2:List (List D)} {ks:List Nat} {o:Option Nat} {n:Nat} {b:Bool} (he:BO P t=some e) (hb:Iv σ.slots e x=some (ow,es,ks)) (hz:(Bn P e).isSome=true∧P.cellsOf e≠0∧P.bytesOf e≤128)
 (hs:P8 σ.slots y=some (es2,o)) (ho:∀ s,o=some s→s∉ks) (hc:∀ c∈es2,c.length=P.cellsOf e) (hl:es.length+es2.length≤1099511627776) (hf:ow=true→AR es2)
 (hK:Bj P ⟨n,false,b,dr⟩ ops K rest (St.put ⟨σ.tmps,kill ks σ.slots++[.arr e ow (es++es2)]⟩ d (.ref σ.slots.length))):gS P ⟨n,false,b,dr⟩ ops K rest σ d t x y :=
 .inl ⟨rfl,.inl (Z4 he hb hz hs ho hc hl hf hK)⟩
theorem Bu {x:V} {es:List (List D)} {ks:List Nat} {n:Nat} {b:Bool} {s2 q:Nat} {cells:List V} {ds:List D} {ks2:List Nat} (he:BO P t=some e) (hb:Iv σ.slots e x=some (true,es,ks)) (hz:(Bn P e).isSome=true∧P.cellsOf e≠0∧P.bytesOf e≤128)
 (hs:σ.slots[s2]? = some (.var e cells)) (ht:CS σ.slots cells=some (ds,ks2)) (hd:∀ k∈ks2,k∉ks) (hc:cells.length=q*P.cellsOf e) (hl:es.length+q≤1099511627776)
 (hK:Bj P ⟨n,false,b,dr⟩ ops K rest (St.put ⟨σ.tmps,kill (s2::(ks++ks2)) σ.slots++[.arr e true (es++Cn (P.cellsOf e) q ds)]⟩ d (.ref σ.slots.length))):gS P ⟨n,false,b,dr⟩ ops K rest σ d t x (.lit s2 q) :=
 .inl ⟨rfl,.inl ⟨e,true,es,ks,he,hb,hz.1,hz.2.1,hz.2.2,.inr (.inr (.inl ⟨s2,q,cells,ds,ks2,rfl,hs,ht,hd,hc,rfl,hl,hK⟩))⟩⟩
theorem Bt {x:V} {es es2:List (List D)} {ks:List Nat} {n:Nat} {b:Bool} {s2:Nat} (he:BO P t=some e) (hb:Iv σ.slots e x=some (true,es,ks)) (hz:(Bn P e).isSome=true∧P.cellsOf e≠0∧P.bytesOf e≤128)
 (hs:σ.slots[s2]? = some (.arr e true es2)) (hd:s2∉ks) (hl:es.length+es2.length≤1099511627776)
 (hK:Bj P ⟨n,false,b,dr⟩ ops K rest (St.put ⟨σ.tmps,kill (s2::ks) σ.slots++[.arr e true (es++es2)]⟩ d (.ref σ.slots.length))):gS P ⟨n,false,b,dr⟩ ops K rest σ d t x (.ref s2) :=
 .inl ⟨rfl,.inl ⟨e,true,es,ks,he,hb,hz.1,hz.2.1,hz.2.2,.inr (.inl ⟨s2,es2,rfl,hs,hd,rfl,hl,hK⟩)⟩⟩
theorem Ev {x y:V} {ow:Bool} {es es2:List (List D)} {ks ks2:List Nat} {n:Nat} {b:Bool} {t':TypeId} (hfz:Il P σ.slots y=some (.sl t' es2,ks2)) (he:BO P t=some e) (hb:Iv (kill ks2 σ.slots) e x=some (ow,es,ks)) (hz:(Bn P e).isSome=true∧P.cellsOf e≠0∧P.bytesOf e≤128)
 (hc:∀ c∈es2,c.length=P.cellsOf e) (hl:es.length+es2.length≤1099511627776)
 (hK:Bj P ⟨n,false,b,dr⟩ ops K rest (St.put ⟨σ.tmps,kill ks (kill ks2 σ.slots)++[.arr e false (es++es2)]⟩ d (.ref (kill ks2 σ.slots).length))):gS P ⟨n,false,b,dr⟩ ops K rest σ d t x y :=
 .inl ⟨rfl,.inr ⟨_,ks2,hfz,e,ow,es,ks,he,hb,hz.1,hz.2.1,hz.2.2,.inr (.inr (.inr ⟨es2,none,rfl,by simp,hc,hl,hK⟩))⟩⟩
end
inductive U0:D→Prop
 | int (k:IntKind) (x:Int) (h:(Lit.int k x).wf=true):U0 (.int k x)
 | bool (b:Bool):U0 (.bool b)
 | sl (t:TypeId) (es:List (List D)) (h:∀ e∈es,∀ d∈e,U0 d):U0 (.sl t es)
theorem U0.i64 {x:Int} (h:U0 (.int .i64 x)):-9223372036854775808≤x∧x≤9223372036854775807:=by
 cases h with
 | int _ _ h =>
   have h2:(decide (IntKind.i64.min≤x)&&decide (x≤IntKind.i64.max))=true:=h;have a:IntKind.i64.min=-9223372036854775808:=by decide
   have b:IntKind.i64.max=9223372036854775807:=by decide
   rw[a,b] at h2;simpa using h2
def rQ {α:Type} (P:Program) (en:α→D) (t:TypeId):Prop :=
 ∀ {H:Type} {enc:TypeId×Value→H} {W:World} {B fuel:Nat} {cs:List Value} {x:DataW H×List MemPlace},
   DataW.trod enc P W 0 (fun _=>true) true fuel t cs=some x→(∀ p∈x.2,p.block<B)→∃ (d:α) (v:Value),cs=[v]∧Rd W (·<B) (en d) v∧U0 (en d)
def OpE {α:Type} (P:Program) (en:α→List D) (t:TypeId):Prop :=
 ∀ {H:Type} {enc:TypeId×Value→H} {W:World} {B fuel:Nat} {cs:List Value} {x:DataW H×List MemPlace},
   DataW.trod enc P W 0 (fun _=>true) true fuel t cs=some x→(∀ p∈x.2,p.block<B)→∃ d:α,Rds W (·<B) (en d) cs []∧∀ q∈en d,U0 q
def AC (x:Int):D:=.int .i64 x
def CZ (x:Bool):D:=.bool x
def Dr {α:Type} (e:TypeId) (en:α→List D) (xs:List α):D:=.sl e (xs.map en)
def e1 {α:Type} (en:α→D) (x:α):List D:=[en x]
def e2 {α β:Type} (a:α→D) (b:β→D) (x:α×β):List D:=[a x.1,b x.2]
def e3 {α β γ:Type} (a:α→D) (b:β→D) (c:γ→D) (x:α×β×γ):List D:=[a x.1,b x.2.1,c x.2.2]
def e4 {α β γ δ:Type} (a:α→D) (b:β→D) (c:γ→D) (d:δ→D) (x:α×β×γ×δ):List D:=[a x.1,b x.2.1,c x.2.2.1,d x.2.2.2]
section
variable {P:Program} {t:TypeId}
theorem AAv {α:Type} {en:α→D} (h:rQ P en t):OpE P (e1 en) t:=fun h1 h2=>by
 obtain⟨d,v,rfl,hr,ho⟩:=h h1 h2;refine⟨d,⟨rfl,rfl,fun i x hx=>?_⟩,by simpa [e1] using ho⟩
 match i with
 | 0=>simp[e1] at hx;subst hx;exact⟨v,rfl,hr⟩
 | i+1=>simp[e1] at hx
theorem Y7 {w:World} {a:Addr} {u:Value} (h:w.cell? a=some u):a.spot=none:=by
 unfold World.cell? at h;split at h
 · split at h
   · cases h
   · rename_i hs
     cases hp:a.spot with
     | none=>rfl
     | some q=>rw[hp] at hs;simp at hs
 · cases h
theorem qK {α:Type} {en:α→List D} {e:TypeId} (ht:P.underlying t=some (.slice e)) (hpos:0<P.cellsOf e) (hE:∀ x,(en x).length=P.cellsOf e) (hT:OpE P en e):rQ P (Dr e en) t:=by
 intro H enc W B fuel cs x h hlt;rcases open_slice ht h with ⟨rfl,rfl⟩|⟨a,len,cap,m,n,D,Pl,rfl,hb,hl,hm,hmm,hx,hi⟩
 · exact⟨[],_,rfl,.nil _ _ _,.sl _ _ (by simp)⟩
 · have hm':m=cap:=hmm;subst hm';have hlen63:len≤9223372036854775807:=by simp only[maxLen] at hm;omega
   have hpl:∀ i,i<m→∀ p∈Pl i,p.block<B:=by
    intro i him p hp;refine hlt p ?_;rw[hx];simp only[CO,List.mem_flatMap,Gq];exact .inr ⟨i,him,hp⟩
   have helem:∀ i,i<len→∃ y:α×List Value,W.cells? 0 (a.add (i*P.cellsOf e)) (P.cellsOf e)=some y.2∧Rds W (·<B) (en y.1) y.2 []∧∀ q∈en y.1,U0 q:=by
    intro i hil;obtain⟨cs',hc,ht'⟩:=hi i (by omega);obtain⟨d,hd⟩:=hT ht' (fun p hp=>hpl i (by omega) p hp);exact⟨(d,cs'),hc,hd⟩
   by_cases h0:len=0
   · subst h0;exact⟨[],_,rfl,.nil _ _ _,.sl _ _ (by simp)⟩
   have hn':0<len:=by omega
   obtain⟨y0,hy0⟩:=helem 0 hn'
   have hall:∀ i,∃ y:α×List Value,i<len→W.cells? 0 (a.add (i*P.cellsOf e)) (P.cellsOf e)=some y.2∧Rds W (·<B) (en y.1) y.2 []∧∀ q∈en y.1,U0 q:=by
    intro i;by_cases hil:i<len
    · obtain⟨y,hy⟩:=helem i hil;exact⟨y,fun _=>hy⟩
    · exact⟨y0,fun h=>absurd h hil⟩
   obtain⟨f,hf⟩:=Classical.skolem.1 hall
   have hblk:a.block<B:=by
    have:MemPlace.cell a.block a.off∈x.2:=by
     rw[hx];simp only[CO];left;rw[MemPlace.row];simp only[CE,Gq];exact⟨0,Nat.mul_pos (by omega) hpos,by simp⟩
    exact hlt _ this
   have hspot:a.spot=none:=by
    obtain⟨_,hcl,hat⟩:=World.cells?_some hy0.1;have h0:=hat 0 hpos;have hcl':0<y0.2.length:=by rw[hcl];exact hpos
    rw[A1 hcl'] at h0;have:=Y7 h0;simpa [Addr.add] using this
   obtain⟨b,o,sp⟩:=a;simp only at hspot;subst hspot
   have hr:=Rd.sl (w:=W) (G:=(·<B)) e ((List.range len).map fun i=>en (f i).1) b o m (P.cellsOf e) (fun i j=>((f i).2[j]?).getD (.bool false)) (by simpa using hlen63) (by simpa using hl) hblk
    (fun x hx=>by simp only[CE,Gq] at hx;obtain⟨i,_,rfl⟩:=hx;exact hE _)
    (fun i y j d hy hd=>by
      rw[Di,Option.map_eq_some_iff] at hy;obtain⟨i',hi',rfl⟩:=hy
      have hil:i<len:=by
       have:=(BZ.1 hi').1;simpa using this
      rw[Yx hil] at hi';obtain rfl:=Da hi';obtain⟨h1,h2,h3⟩:=hf i hil;obtain⟨_,hcl,hat⟩:=World.cells?_some h1;have hj:j<P.cellsOf e:=by rw[←hE (f i).1];exact (BZ.1 hd).1
      have:=hat j hj;have hj2:j<(f i).2.length:=by rw[hcl];exact hj
      rw[A1 hj2] at this ⊢
      have ee:((⟨b,o,none⟩:Addr).add (i*P.cellsOf e)).add j=⟨b,o+i*P.cellsOf e+j,none⟩:=by
       rw[Go.Deep.add_add];unfold Addr.add;split
       · rename_i h0;rw[Nat.add_assoc,h0,Nat.add_zero]
       · rw[Nat.add_assoc]
      rw[ee] at this
      simpa using this)
    (fun i y j d hy hd=>by
      rw[Di,Option.map_eq_some_iff] at hy;obtain⟨i',hi',rfl⟩:=hy
      have hil:i<len:=by
       have:=(BZ.1 hi').1;simpa using this
      rw[Yx hil] at hi';obtain rfl:=Da hi';obtain⟨h1,h2,h3⟩:=hf i hil;obtain⟨v,hv,hr⟩:=h2.2.2 j d hd;rw[hv]
      exact hr)
   refine⟨(List.range len).map fun i=>(f i).1,_,rfl,?_⟩;have el:((List.range len).map fun i=>en (f i).1).length=len:=by simp
   rw[el] at hr;have em:Dr e en ((List.range len).map fun i=>(f i).1)=.sl e ((List.range len).map fun i=>en (f i).1):=by simp[Dr,Function.comp_def]
   rw[em];refine⟨hr,.sl _ _ fun e he q hq=>?_⟩;simp only[CE,Gq] at he;obtain⟨i,hi,rfl⟩:=he;exact (hf i hi).2.2 q hq
section
variable {α:Type} {H:Type} {enc:TypeId×Value→H} {W:World} {base:Nat} {v:Value} {d:DataW H} {p:List MemPlace}
theorem lN {en:α→D} {e:TypeId} (ht:P.underlying t=some (.slice e)) (hO:rQ P en t) (hv:Value.okWide P W .any base t v) (h:DataW.Trod enc P W 0 (fun _=>true) true t v d p) (hlt:∀ x∈p,x.block<W.heap.size):∃ x:α,Rd W (·<W.heap.size) (en x) v∧U0 (en x):=by
 obtain⟨a0,len,cap,rfl⟩:=okWide_slice ht hv;obtain⟨fuel,hf⟩:=h;obtain⟨x,v,e1,h2⟩:=hO hf hlt;have e1':[Value.slice a0 len cap]=[v]:=e1
 cases e1'
 exact⟨x,h2⟩
theorem lG {en:α→D} {e:TypeId} (ht:P.underlying t=some (.slice e)) (hO:rQ P en t) (hv:Value.okWide P W .any base t v) (h:DataW.Trod enc P W 0 (fun _=>true) true t v d p) (hlt:∀ x∈p,x.block<W.heap.size):∃ x:α,Rd W (·<W.heap.size) (en x) v:=by
 obtain⟨x,h,_⟩:=lN ht hO hv h hlt;exact⟨x,h⟩
end
theorem oK {f:FuncId} {xs:List X} (h:BA P f xs (.d (.bool true))) {w:World} {vs:Array Value} (hl:vs.size=xs.length) (hr:∀ (i:Nat) (x:X) (v:Value),xs[i]? = some x→vs[i]? = some v→oF w (·<w.heap.size) x v) :
 Calls P f vs w fun e w'=>e=.returned (.bool true)∧Below w.heap.size w w':=by
 refine (h.2 w vs.toList (by simpa using hl) (fun i x v hx hv=>hr i x v hx (by simpa using hv))).mono ?_;rintro e w' ⟨v,F,rfl,hres,-,-,hb⟩;refine⟨?_,hb⟩
 cases hres with
 | one hx=>cases hx with
   | d ho =>
     obtain⟨v',hv',hr'⟩:=ho.rd (G:=fun _=>True) (fun _ _=>trivial) 0 _ rfl;simp at hv';subst hv'
     cases hr'
     rfl
end
end Go.Proofs.YtnjedabjbeipeaaGreat
