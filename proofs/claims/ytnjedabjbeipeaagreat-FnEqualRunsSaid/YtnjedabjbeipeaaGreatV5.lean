/-
  Facts on the program's types, for abstract walks.
  Conditions: none.
-/
import Derived.Test.YtnjedabjbeipeaaGreatV4
namespace Go.Proofs.YtnjedabjbeipeaaGreat
open Go.RowKit Go.ChangeShapes Go.WideShapes Go.ChangeAt Go.Deep Go.Joins
set_option linter.unusedSimpArgs false
set_option linter.unusedVariables false
set_option maxRecDepth 100000
set_option maxHeartbeats 10000000
@[simp] theorem ABP:(Tryz.prog.underlying 2).isSome=true:=by kernel_rfl
@[simp] theorem ABI:Dk Tryz.prog 2=false:=by kernel_rfl
@[simp] theorem ABJ:Tryz.prog.cellsOf 2=1:=by kernel_rfl
@[simp] theorem ABb:Tryz.prog.bytesOf 2=8:=by kernel_rfl
@[simp] theorem ABh:Bn Tryz.prog 2=some [.d (.int .i64 0)]:=by kernel_rfl
@[simp] theorem ABR:Tryz.prog.underlying 2=some (.int .i64):=by kernel_rfl
@[simp] theorem ABd:(Tryz.prog.underlying 3).isSome=true:=by kernel_rfl
@[simp] theorem ABx:Dk Tryz.prog 3=false:=by kernel_rfl
@[simp] theorem ABQ:Tryz.prog.cellsOf 3=1:=by kernel_rfl
@[simp] theorem ABc:Tryz.prog.bytesOf 3=8:=by kernel_rfl
@[simp] theorem ABO:Bn Tryz.prog 3=some [.d (.int .i64 0)]:=by kernel_rfl
@[simp] theorem ABX:Tryz.prog.underlying 3=some (.int .i64):=by kernel_rfl
@[simp] theorem ABj:(Tryz.prog.underlying 4).isSome=true:=by kernel_rfl
@[simp] theorem ABk:Dk Tryz.prog 4=false:=by kernel_rfl
@[simp] theorem ABW:Tryz.prog.cellsOf 4=1:=by kernel_rfl
@[simp] theorem ABL:Tryz.prog.bytesOf 4=1:=by kernel_rfl
@[simp] theorem ABt:Bn Tryz.prog 4=some [.d (.bool false)]:=by kernel_rfl
@[simp] theorem ABH:Tryz.prog.underlying 4=some .bool:=by kernel_rfl
@[simp] theorem ABK:(Tryz.prog.underlying 5).isSome=true:=by kernel_rfl
@[simp] theorem ABD:Dk Tryz.prog 5=false:=by kernel_rfl
@[simp] theorem ABy:Tryz.prog.cellsOf 5=1:=by kernel_rfl
@[simp] theorem ABp:Tryz.prog.bytesOf 5=1:=by kernel_rfl
@[simp] theorem ABF:Bn Tryz.prog 5=some [.d (.int .u8 0)]:=by kernel_rfl
@[simp] theorem ABE:Tryz.prog.underlying 5=some (.int .u8):=by kernel_rfl
@[simp] theorem ABw:(Tryz.prog.underlying 6).isSome=true:=by kernel_rfl
@[simp] theorem ABl:Dk Tryz.prog 6=false:=by kernel_rfl
@[simp] theorem ABn:Tryz.prog.cellsOf 6=1:=by kernel_rfl
@[simp] theorem ABG:Tryz.prog.bytesOf 6=1:=by kernel_rfl
@[simp] theorem ABi:Bn Tryz.prog 6=some [.d (.int .u8 0)]:=by kernel_rfl
@[simp] theorem ABU:Tryz.prog.underlying 6=some (.int .u8):=by kernel_rfl
@[simp] theorem ABe:(Tryz.prog.underlying 7).isSome=true:=by kernel_rfl
@[simp] theorem ABg:Dk Tryz.prog 7=true:=by kernel_rfl
@[simp] theorem ABq:Tryz.prog.cellsOf 7=4:=by kernel_rfl
@[simp] theorem ABo:Tryz.prog.bytesOf 7=24:=by kernel_rfl
@[simp] theorem AA2:AS Tryz.prog 7 0=some (0,2):=by kernel_rfl
@[simp] theorem AA6:AS Tryz.prog 7 1=some (1,3):=by kernel_rfl
@[simp] theorem wF:AS Tryz.prog 7 2=some (2,4):=by kernel_rfl
@[simp] theorem AAb:AS Tryz.prog 7 3=some (3,6):=by kernel_rfl
@[simp] theorem ABf:Bn Tryz.prog 7=some [.d (.int .i64 0),.d (.int .i64 0),.d (.bool false),.d (.int .u8 0)]:=by kernel_rfl
@[simp] theorem ABV:(Tryz.prog.underlying 8).isSome=true:=by kernel_rfl
@[simp] theorem ABN:Dk Tryz.prog 8=true:=by kernel_rfl
@[simp] theorem ABZ:Tryz.prog.cellsOf 8=4:=by kernel_rfl
@[simp] theorem ABM:Tryz.prog.bytesOf 8=24:=by kernel_rfl
@[simp] theorem xU:AS Tryz.prog 8 0=some (0,2):=by kernel_rfl
@[simp] theorem AAN:AS Tryz.prog 8 1=some (1,3):=by kernel_rfl
@[simp] theorem AAO:AS Tryz.prog 8 2=some (2,4):=by kernel_rfl
@[simp] theorem AAY:AS Tryz.prog 8 3=some (3,6):=by kernel_rfl
@[simp] theorem ABu:Bn Tryz.prog 8=some [.d (.int .i64 0),.d (.int .i64 0),.d (.bool false),.d (.int .u8 0)]:=by kernel_rfl
@[simp] theorem AAP:(Tryz.prog.underlying 12).isSome=true:=by kernel_rfl
@[simp] theorem AAK:Dk Tryz.prog 12=false:=by kernel_rfl
@[simp] theorem xZ:Tryz.prog.cellsOf 12=1:=by kernel_rfl
@[simp] theorem yR:Tryz.prog.bytesOf 12=8:=by kernel_rfl
@[simp] theorem AAM:Bn Tryz.prog 12=some [.d (.int .u64 0)]:=by kernel_rfl
@[simp] theorem AAr:Tryz.prog.underlying 12=some (.int .u64):=by kernel_rfl
@[simp] theorem wH:(Tryz.prog.underlying 21).isSome=true:=by kernel_rfl
@[simp] theorem AAk:Dk Tryz.prog 21=false:=by kernel_rfl
@[simp] theorem xC:Tryz.prog.cellsOf 21=1:=by kernel_rfl
@[simp] theorem xP:Tryz.prog.bytesOf 21=4:=by kernel_rfl
@[simp] theorem vZ:Bn Tryz.prog 21=some [.d (.int .i32 0)]:=by kernel_rfl
@[simp] theorem zH:Tryz.prog.underlying 21=some (.int .i32):=by kernel_rfl
@[simp] theorem zK:(Tryz.prog.underlying 22).isSome=true:=by kernel_rfl
@[simp] theorem xQ:Dk Tryz.prog 22=false:=by kernel_rfl
@[simp] theorem AA0:Tryz.prog.cellsOf 22=1:=by kernel_rfl
@[simp] theorem xO:Tryz.prog.bytesOf 22=24:=by kernel_rfl
@[simp] theorem yF:BR Tryz.prog 22=some 5:=by kernel_rfl
@[simp] theorem AAh:Bn Tryz.prog 22=some [.nil 5]:=by kernel_rfl
@[simp] theorem AAA:(Tryz.prog.underlying 24).isSome=true:=by kernel_rfl
@[simp] theorem zB:Dk Tryz.prog 24=false:=by kernel_rfl
@[simp] theorem AAC:Tryz.prog.cellsOf 24=1:=by kernel_rfl
@[simp] theorem vY:Tryz.prog.bytesOf 24=24:=by kernel_rfl
@[simp] theorem B4:BR Tryz.prog 24=some 57:=by kernel_rfl
@[simp] theorem wK:Bn Tryz.prog 24=some [.nil 57]:=by kernel_rfl
@[simp] theorem AAn:(Tryz.prog.underlying 25).isSome=true:=by kernel_rfl
@[simp] theorem xK:Dk Tryz.prog 25=false:=by kernel_rfl
@[simp] theorem wG:Tryz.prog.cellsOf 25=1:=by kernel_rfl
@[simp] theorem zF:Tryz.prog.bytesOf 25=24:=by kernel_rfl
@[simp] theorem Ek:BR Tryz.prog 25=some 63:=by kernel_rfl
@[simp] theorem AAg:Bn Tryz.prog 25=some [.nil 63]:=by kernel_rfl
@[simp] theorem AAo:(Tryz.prog.underlying 26).isSome=true:=by kernel_rfl
@[simp] theorem AAS:Dk Tryz.prog 26=false:=by kernel_rfl
@[simp] theorem AAV:Tryz.prog.cellsOf 26=1:=by kernel_rfl
@[simp] theorem AA9:Tryz.prog.bytesOf 26=24:=by kernel_rfl
@[simp] theorem As:BR Tryz.prog 26=some 3:=by kernel_rfl
@[simp] theorem xF:Bn Tryz.prog 26=some [.nil 3]:=by kernel_rfl
@[simp] theorem AAi:(Tryz.prog.underlying 27).isSome=true:=by kernel_rfl
@[simp] theorem yL:Dk Tryz.prog 27=true:=by kernel_rfl
@[simp] theorem wQ:Tryz.prog.cellsOf 27=4:=by kernel_rfl
@[simp] theorem wB:Tryz.prog.bytesOf 27=80:=by kernel_rfl
@[simp] theorem uI:AS Tryz.prog 27 0=some (0,3):=by kernel_rfl
@[simp] theorem uY:AS Tryz.prog 27 1=some (1,24):=by kernel_rfl
@[simp] theorem rX:AS Tryz.prog 27 2=some (2,25):=by kernel_rfl
@[simp] theorem rS:AS Tryz.prog 27 3=some (3,26):=by kernel_rfl
@[simp] theorem xY:Bn Tryz.prog 27=some [.d (.int .i64 0),.nil 57,.nil 63,.nil 3]:=by kernel_rfl
@[simp] theorem wX:(Tryz.prog.underlying 28).isSome=true:=by kernel_rfl
@[simp] theorem wN:Dk Tryz.prog 28=true:=by kernel_rfl
@[simp] theorem zV:Tryz.prog.cellsOf 28=4:=by kernel_rfl
@[simp] theorem wW:Tryz.prog.bytesOf 28=80:=by kernel_rfl
@[simp] theorem sJ:AS Tryz.prog 28 0=some (0,3):=by kernel_rfl
@[simp] theorem vH:AS Tryz.prog 28 1=some (1,24):=by kernel_rfl
@[simp] theorem rP:AS Tryz.prog 28 2=some (2,25):=by kernel_rfl
@[simp] theorem uE:AS Tryz.prog 28 3=some (3,26):=by kernel_rfl
@[simp] theorem yS:Bn Tryz.prog 28=some [.d (.int .i64 0),.nil 57,.nil 63,.nil 3]:=by kernel_rfl
@[simp] theorem zD:(Tryz.prog.underlying 32).isSome=true:=by kernel_rfl
@[simp] theorem xT:Dk Tryz.prog 32=false:=by kernel_rfl
@[simp] theorem wM:Tryz.prog.cellsOf 32=1:=by kernel_rfl
@[simp] theorem AAy:Tryz.prog.bytesOf 32=24:=by kernel_rfl
@[simp] theorem AM:BR Tryz.prog 32=some 26:=by kernel_rfl
@[simp] theorem AAW:Bn Tryz.prog 32=some [.nil 26]:=by kernel_rfl
@[simp] theorem AA1:(Tryz.prog.underlying 45).isSome=true:=by kernel_rfl
@[simp] theorem yZ:Dk Tryz.prog 45=true:=by kernel_rfl
@[simp] theorem AAR:Tryz.prog.cellsOf 45=2:=by kernel_rfl
@[simp] theorem yD:Tryz.prog.bytesOf 45=32:=by kernel_rfl
@[simp] theorem rO:AS Tryz.prog 45 0=some (0,3):=by kernel_rfl
@[simp] theorem tN:AS Tryz.prog 45 1=some (1,32):=by kernel_rfl
@[simp] theorem zT:Bn Tryz.prog 45=some [.d (.int .i64 0),.nil 26]:=by kernel_rfl
@[simp] theorem AAa:(Tryz.prog.underlying 46).isSome=true:=by kernel_rfl
@[simp] theorem wI:Dk Tryz.prog 46=true:=by kernel_rfl
@[simp] theorem zY:Tryz.prog.cellsOf 46=2:=by kernel_rfl
@[simp] theorem xX:Tryz.prog.bytesOf 46=32:=by kernel_rfl
@[simp] theorem uZ:AS Tryz.prog 46 0=some (0,3):=by kernel_rfl
@[simp] theorem uC:AS Tryz.prog 46 1=some (1,32):=by kernel_rfl
@[simp] theorem yM:Bn Tryz.prog 46=some [.d (.int .i64 0),.nil 26]:=by kernel_rfl
@[simp] theorem ABB:(Tryz.prog.underlying 49).isSome=true:=by kernel_rfl
@[simp] theorem xW:Dk Tryz.prog 49=false:=by kernel_rfl
@[simp] theorem wA:Tryz.prog.cellsOf 49=1:=by kernel_rfl
@[simp] theorem AA7:Tryz.prog.bytesOf 49=24:=by kernel_rfl
@[simp] theorem L8:BR Tryz.prog 49=some 4:=by kernel_rfl
@[simp] theorem yP:Bn Tryz.prog 49=some [.nil 4]:=by kernel_rfl
@[simp] theorem zR:(Tryz.prog.underlying 54).isSome=true:=by kernel_rfl
@[simp] theorem AAt:Dk Tryz.prog 54=false:=by kernel_rfl
@[simp] theorem yJ:Tryz.prog.cellsOf 54=1:=by kernel_rfl
@[simp] theorem wJ:Tryz.prog.bytesOf 54=8:=by kernel_rfl
@[simp] theorem wZ:Bn Tryz.prog 54=some [.d (.int .u64 0)]:=by kernel_rfl
@[simp] theorem yQ:Tryz.prog.underlying 54=some (.int .u64):=by kernel_rfl
@[simp] theorem xJ:(Tryz.prog.underlying 56).isSome=true:=by kernel_rfl
@[simp] theorem AAc:Dk Tryz.prog 56=true:=by kernel_rfl
@[simp] theorem AAB:Tryz.prog.cellsOf 56=3:=by kernel_rfl
@[simp] theorem ABC:Tryz.prog.bytesOf 56=40:=by kernel_rfl
@[simp] theorem vB:AS Tryz.prog 56 0=some (0,3):=by kernel_rfl
@[simp] theorem uS:AS Tryz.prog 56 1=some (1,3):=by kernel_rfl
@[simp] theorem vK:AS Tryz.prog 56 2=some (2,26):=by kernel_rfl
@[simp] theorem AAm:Bn Tryz.prog 56=some [.d (.int .i64 0),.d (.int .i64 0),.nil 3]:=by kernel_rfl
@[simp] theorem AAE:(Tryz.prog.underlying 57).isSome=true:=by kernel_rfl
@[simp] theorem yN:Dk Tryz.prog 57=true:=by kernel_rfl
@[simp] theorem zE:Tryz.prog.cellsOf 57=3:=by kernel_rfl
@[simp] theorem AAH:Tryz.prog.bytesOf 57=40:=by kernel_rfl
@[simp] theorem sU:AS Tryz.prog 57 0=some (0,3):=by kernel_rfl
@[simp] theorem uD:AS Tryz.prog 57 1=some (1,3):=by kernel_rfl
@[simp] theorem vV:AS Tryz.prog 57 2=some (2,26):=by kernel_rfl
@[simp] theorem yH:Bn Tryz.prog 57=some [.d (.int .i64 0),.d (.int .i64 0),.nil 3]:=by kernel_rfl
@[simp] theorem AAp:(Tryz.prog.underlying 62).isSome=true:=by kernel_rfl
@[simp] theorem xN:Dk Tryz.prog 62=true:=by kernel_rfl
@[simp] theorem AAu:Tryz.prog.cellsOf 62=2:=by kernel_rfl
@[simp] theorem AAD:Tryz.prog.bytesOf 62=16:=by kernel_rfl
@[simp] theorem uQ:AS Tryz.prog 62 0=some (0,3):=by kernel_rfl
@[simp] theorem sK:AS Tryz.prog 62 1=some (1,3):=by kernel_rfl
@[simp] theorem AA5:Bn Tryz.prog 62=some [.d (.int .i64 0),.d (.int .i64 0)]:=by kernel_rfl
@[simp] theorem xV:KN Tryz.prog 62=true:=by kernel_rfl
@[simp] theorem zO:(Tryz.prog.underlying 63).isSome=true:=by kernel_rfl
@[simp] theorem wV:Dk Tryz.prog 63=true:=by kernel_rfl
@[simp] theorem xM:Tryz.prog.cellsOf 63=2:=by kernel_rfl
@[simp] theorem AAz:Tryz.prog.bytesOf 63=16:=by kernel_rfl
@[simp] theorem rQ:AS Tryz.prog 63 0=some (0,3):=by kernel_rfl
@[simp] theorem uJ:AS Tryz.prog 63 1=some (1,3):=by kernel_rfl
@[simp] theorem yT:Bn Tryz.prog 63=some [.d (.int .i64 0),.d (.int .i64 0)]:=by kernel_rfl
@[simp] theorem AAT:KN Tryz.prog 63=true:=by kernel_rfl
@[simp] theorem xH:(Tryz.prog.underlying 65).isSome=true:=by kernel_rfl
@[simp] theorem wU:Dk Tryz.prog 65=true:=by kernel_rfl
@[simp] theorem AA3:Tryz.prog.cellsOf 65=3:=by kernel_rfl
@[simp] theorem xG:Tryz.prog.bytesOf 65=40:=by kernel_rfl
@[simp] theorem vG:AS Tryz.prog 65 0=some (0,22):=by kernel_rfl
@[simp] theorem vX:AS Tryz.prog 65 1=some (1,3):=by kernel_rfl
@[simp] theorem tF:AS Tryz.prog 65 2=some (2,3):=by kernel_rfl
@[simp] theorem zL:Bn Tryz.prog 65=some [.nil 5,.d (.int .i64 0),.d (.int .i64 0)]:=by kernel_rfl
@[simp] theorem AAZ:(Tryz.prog.underlying 66).isSome=true:=by kernel_rfl
@[simp] theorem ABA:Dk Tryz.prog 66=true:=by kernel_rfl
@[simp] theorem AAs:Tryz.prog.cellsOf 66=3:=by kernel_rfl
@[simp] theorem AAx:Tryz.prog.bytesOf 66=40:=by kernel_rfl
@[simp] theorem tJ:AS Tryz.prog 66 0=some (0,22):=by kernel_rfl
@[simp] theorem uX:AS Tryz.prog 66 1=some (1,3):=by kernel_rfl
@[simp] theorem tU:AS Tryz.prog 66 2=some (2,3):=by kernel_rfl
@[simp] theorem xB:Bn Tryz.prog 66=some [.nil 5,.d (.int .i64 0),.d (.int .i64 0)]:=by kernel_rfl
@[simp] theorem zM:(Tryz.prog.underlying 79).isSome=true:=by kernel_rfl
@[simp] theorem AAL:Dk Tryz.prog 79=true:=by kernel_rfl
@[simp] theorem AAw:Tryz.prog.cellsOf 79=5:=by kernel_rfl
@[simp] theorem yK:Tryz.prog.bytesOf 79=88:=by kernel_rfl
@[simp] theorem rJ:AS Tryz.prog 79 0=some (0,46):=by kernel_rfl
@[simp] theorem sO:AS Tryz.prog 79 1=some (2,3):=by kernel_rfl
@[simp] theorem tS:AS Tryz.prog 79 2=some (3,32):=by kernel_rfl
@[simp] theorem rY:AS Tryz.prog 79 3=some (4,26):=by kernel_rfl
@[simp] theorem AAU:Bn Tryz.prog 79=some [.d (.int .i64 0),.nil 26,.d (.int .i64 0),.nil 26,.nil 3]:=by kernel_rfl
@[simp] theorem zP:(Tryz.prog.underlying 80).isSome=true:=by kernel_rfl
@[simp] theorem yW:Dk Tryz.prog 80=true:=by kernel_rfl
@[simp] theorem zJ:Tryz.prog.cellsOf 80=5:=by kernel_rfl
@[simp] theorem yY:Tryz.prog.bytesOf 80=88:=by kernel_rfl
@[simp] theorem tL:AS Tryz.prog 80 0=some (0,46):=by kernel_rfl
@[simp] theorem tR:AS Tryz.prog 80 1=some (2,3):=by kernel_rfl
@[simp] theorem rL:AS Tryz.prog 80 2=some (3,32):=by kernel_rfl
@[simp] theorem uT:AS Tryz.prog 80 3=some (4,26):=by kernel_rfl
@[simp] theorem wD:Bn Tryz.prog 80=some [.d (.int .i64 0),.nil 26,.d (.int .i64 0),.nil 26,.nil 3]:=by kernel_rfl
@[simp] theorem xA:(Tryz.prog.underlying 83).isSome=true:=by kernel_rfl
@[simp] theorem yI:Dk Tryz.prog 83=false:=by kernel_rfl
@[simp] theorem wP:Tryz.prog.cellsOf 83=1:=by kernel_rfl
@[simp] theorem AAq:Tryz.prog.bytesOf 83=24:=by kernel_rfl
@[simp] theorem zA:BR Tryz.prog 83=some 28:=by kernel_rfl
@[simp] theorem xL:Bn Tryz.prog 83=some [.nil 28]:=by kernel_rfl
@[simp] theorem zN:(Tryz.prog.underlying 90).isSome=true:=by kernel_rfl
@[simp] theorem wO:Dk Tryz.prog 90=true:=by kernel_rfl
@[simp] theorem zI:Tryz.prog.cellsOf 90=6:=by kernel_rfl
@[simp] theorem AA8:Tryz.prog.bytesOf 90=96:=by kernel_rfl
@[simp] theorem tI:AS Tryz.prog 90 0=some (0,46):=by kernel_rfl
@[simp] theorem uV:AS Tryz.prog 90 1=some (2,3):=by kernel_rfl
@[simp] theorem sL:AS Tryz.prog 90 2=some (3,3):=by kernel_rfl
@[simp] theorem sN:AS Tryz.prog 90 3=some (4,32):=by kernel_rfl
@[simp] theorem uL:AS Tryz.prog 90 4=some (5,26):=by kernel_rfl
@[simp] theorem xE:Bn Tryz.prog 90=some [.d (.int .i64 0),.nil 26,.d (.int .i64 0),.d (.int .i64 0),.nil 26,.nil 3]:=by kernel_rfl
@[simp] theorem yU:(Tryz.prog.underlying 91).isSome=true:=by kernel_rfl
@[simp] theorem wR:Dk Tryz.prog 91=true:=by kernel_rfl
@[simp] theorem xI:Tryz.prog.cellsOf 91=6:=by kernel_rfl
@[simp] theorem AA4:Tryz.prog.bytesOf 91=96:=by kernel_rfl
@[simp] theorem tT:AS Tryz.prog 91 0=some (0,46):=by kernel_rfl
@[simp] theorem uB:AS Tryz.prog 91 1=some (2,3):=by kernel_rfl
@[simp] theorem tZ:AS Tryz.prog 91 2=some (3,3):=by kernel_rfl
@[simp] theorem rW:AS Tryz.prog 91 3=some (4,32):=by kernel_rfl
@[simp] theorem uO:AS Tryz.prog 91 4=some (5,26):=by kernel_rfl
@[simp] theorem AAd:Bn Tryz.prog 91=some [.d (.int .i64 0),.nil 26,.d (.int .i64 0),.d (.int .i64 0),.nil 26,.nil 3]:=by kernel_rfl
@[simp] theorem vS:(Tryz.prog.underlying 114).isSome=true:=by kernel_rfl
@[simp] theorem uN:Dk Tryz.prog 114=false:=by kernel_rfl
@[simp] theorem tH:Tryz.prog.cellsOf 114=1:=by kernel_rfl
@[simp] theorem uR:Tryz.prog.bytesOf 114=24:=by kernel_rfl
@[simp] theorem SY:BR Tryz.prog 114=some 32:=by kernel_rfl
@[simp] theorem tV:Bn Tryz.prog 114=some [.nil 32]:=by kernel_rfl
@[simp] theorem sP:(Tryz.prog.underlying 117).isSome=true:=by kernel_rfl
@[simp] theorem sQ:Dk Tryz.prog 117=true:=by kernel_rfl
@[simp] theorem vU:Tryz.prog.cellsOf 117=2:=by kernel_rfl
@[simp] theorem sR:Tryz.prog.bytesOf 117=16:=by kernel_rfl
@[simp] theorem pU:AS Tryz.prog 117 0=some (0,3):=by kernel_rfl
@[simp] theorem qS:AS Tryz.prog 117 1=some (1,3):=by kernel_rfl
@[simp] theorem tD:Bn Tryz.prog 117=some [.d (.int .i64 0),.d (.int .i64 0)]:=by kernel_rfl
@[simp] theorem uG:KN Tryz.prog 117=true:=by kernel_rfl
@[simp] theorem uP:(Tryz.prog.underlying 118).isSome=true:=by kernel_rfl
@[simp] theorem vA:Dk Tryz.prog 118=true:=by kernel_rfl
@[simp] theorem sD:Tryz.prog.cellsOf 118=2:=by kernel_rfl
@[simp] theorem tO:Tryz.prog.bytesOf 118=16:=by kernel_rfl
@[simp] theorem qZ:AS Tryz.prog 118 0=some (0,3):=by kernel_rfl
@[simp] theorem qY:AS Tryz.prog 118 1=some (1,3):=by kernel_rfl
@[simp] theorem uH:Bn Tryz.prog 118=some [.d (.int .i64 0),.d (.int .i64 0)]:=by kernel_rfl
@[simp] theorem vJ:KN Tryz.prog 118=true:=by kernel_rfl
@[simp] theorem uK:(Tryz.prog.underlying 120).isSome=true:=by kernel_rfl
@[simp] theorem rU:Dk Tryz.prog 120=false:=by kernel_rfl
@[simp] theorem sG:Tryz.prog.cellsOf 120=1:=by kernel_rfl
@[simp] theorem rT:Tryz.prog.bytesOf 120=24:=by kernel_rfl
@[simp] theorem Nh:BR Tryz.prog 120=some 133:=by kernel_rfl
@[simp] theorem sS:Bn Tryz.prog 120=some [.nil 133]:=by kernel_rfl
@[simp] theorem vQ:(Tryz.prog.underlying 132).isSome=true:=by kernel_rfl
@[simp] theorem vI:Dk Tryz.prog 132=true:=by kernel_rfl
@[simp] theorem uW:Tryz.prog.cellsOf 132=2:=by kernel_rfl
@[simp] theorem sC:Tryz.prog.bytesOf 132=16:=by kernel_rfl
@[simp] theorem qF:AS Tryz.prog 132 0=some (0,3):=by kernel_rfl
@[simp] theorem qL:AS Tryz.prog 132 1=some (1,3):=by kernel_rfl
@[simp] theorem rN:Bn Tryz.prog 132=some [.d (.int .i64 0),.d (.int .i64 0)]:=by kernel_rfl
@[simp] theorem sT:KN Tryz.prog 132=true:=by kernel_rfl
@[simp] theorem sV:(Tryz.prog.underlying 133).isSome=true:=by kernel_rfl
@[simp] theorem tG:Dk Tryz.prog 133=true:=by kernel_rfl
@[simp] theorem Tq:Tryz.prog.cellsOf 133=2:=by kernel_rfl
@[simp] theorem vC:Tryz.prog.bytesOf 133=16:=by kernel_rfl
@[simp] theorem rD:AS Tryz.prog 133 0=some (0,3):=by kernel_rfl
@[simp] theorem qT:AS Tryz.prog 133 1=some (1,3):=by kernel_rfl
@[simp] theorem sI:Bn Tryz.prog 133=some [.d (.int .i64 0),.d (.int .i64 0)]:=by kernel_rfl
@[simp] theorem vD:KN Tryz.prog 133=true:=by kernel_rfl
@[simp] theorem uM:(Tryz.prog.underlying 142).isSome=true:=by kernel_rfl
@[simp] theorem tC:(Tryz.prog.underlying 146).isSome=true:=by kernel_rfl
@[simp] theorem vT:Dk Tryz.prog 146=false:=by kernel_rfl
@[simp] theorem tE:Tryz.prog.cellsOf 146=1:=by kernel_rfl
@[simp] theorem tY:Tryz.prog.bytesOf 146=4:=by kernel_rfl
@[simp] theorem tM:Bn Tryz.prog 146=some [.d (.int .u32 0)]:=by kernel_rfl
@[simp] theorem vL:Tryz.prog.underlying 146=some (.int .u32):=by kernel_rfl
@[simp] theorem tW:(Tryz.prog.underlying 147).isSome=true:=by kernel_rfl
@[simp] theorem uF:Dk Tryz.prog 147=false:=by kernel_rfl
@[simp] theorem rM:Tryz.prog.cellsOf 147=1:=by kernel_rfl
@[simp] theorem vM:Tryz.prog.bytesOf 147=1:=by kernel_rfl
@[simp] theorem rZ:Bn Tryz.prog 147=some [.d (.int .u8 0)]:=by kernel_rfl
@[simp] theorem sW:Tryz.prog.underlying 147=some (.int .u8):=by kernel_rfl
@[simp] theorem tK:(Tryz.prog.underlying 148).isSome=true:=by kernel_rfl
@[simp] theorem sX:Dk Tryz.prog 148=false:=by kernel_rfl
@[simp] theorem uA:Tryz.prog.cellsOf 148=1:=by kernel_rfl
@[simp] theorem rR:Tryz.prog.bytesOf 148=1:=by kernel_rfl
@[simp] theorem sF:Bn Tryz.prog 148=some [.d (.int .u8 0)]:=by kernel_rfl
@[simp] theorem sZ:Tryz.prog.underlying 148=some (.int .u8):=by kernel_rfl
@[simp] theorem sM:(Tryz.prog.underlying 151).isSome=true:=by kernel_rfl
@[simp] theorem tX:Dk Tryz.prog 151=false:=by kernel_rfl
@[simp] theorem vE:Tryz.prog.cellsOf 151=1:=by kernel_rfl
@[simp] theorem vP:Tryz.prog.bytesOf 151=4:=by kernel_rfl
@[simp] theorem sY:Bn Tryz.prog 151=some [.d (.int .i32 0)]:=by kernel_rfl
@[simp] theorem vW:Tryz.prog.underlying 151=some (.int .i32):=by kernel_rfl
@[simp] theorem tQ:(Tryz.prog.underlying 152).isSome=true:=by kernel_rfl
@[simp] theorem sH:Dk Tryz.prog 152=false:=by kernel_rfl
@[simp] theorem vR:Tryz.prog.cellsOf 152=1:=by kernel_rfl
@[simp] theorem rK:Tryz.prog.bytesOf 152=4:=by kernel_rfl
@[simp] theorem rV:Bn Tryz.prog 152=some [.d (.int .i32 0)]:=by kernel_rfl
@[simp] theorem uU:Tryz.prog.underlying 152=some (.int .i32):=by kernel_rfl
section
variable {P:Program} {m:Mode} {Q:Exit→St→Prop} {σ:St} {dr:Bool}
theorem WS:IL P m .skip Q σ=Q .normal σ:=rfl
theorem MS {id n:Nat} {s b:Bool} {ops:Array Oper}:IL P ⟨n,s,b,false⟩ (.region id ops true) Q σ=(TY ops=true∧Bj P ⟨n,s,false,false⟩ ops (Q .normal) ops.toList σ):=rfl
theorem T6 {id n:Nat} {s b:Bool} {ops:Array Oper}:IL P ⟨n,s,b,true⟩ (.region id ops true) Q σ=Sq P ⟨n,s,b,true⟩ ops Q σ:=rfl
theorem AH {n:Nat} {s b:Bool} {ops:Array Oper} (q:Nat) (h:J3 ops q=true) (h2:Bj P ⟨n,s,false,true⟩ ops (Bj P ⟨n,s,b,true⟩ ops (Q .normal) (ops.toList.drop q)) (ops.toList.take q) σ):Sq P ⟨n,s,b,true⟩ ops Q σ:=.inl (.inl ⟨q,h,h2⟩)
theorem Fl {id:Nat} {ops:Array Oper}:IL P m (.region id ops false) Q σ=Bj P m ops (Q .normal) ops.toList σ:=rfl
theorem kZ {n:Nat} {s b q:Bool}:(⟨n,s,b,q⟩:Mode).still=⟨n,s,false,q⟩:=rfl
theorem K9 {a b:Code}:IL P m (.seq a b) Q σ=IL P m a (G5 (IL P m b Q) Q) σ:=rfl
def KO (t:Bool) (A B:Prop):Prop:=(t=true→A)∧(t=false→B)
theorem P0 {A B:Prop}:KO true A B=A:=by simp[KO]
theorem Ow {A B:Prop}:KO false A B=B:=by simp[KO]
def W9 (t:Bool) (A B:Prop):Prop:=KO t A B
@[congr] theorem oX {t t':Bool} {A B:Prop} (h:t=t'):W9 t A B=W9 t' A B:=by rw[h]
theorem BT {A B:Prop}:W9 true A B=A:=P0
theorem BS {A B:Prop}:W9 false A B=B:=Ow
def pN (P:Program) (m:Mode) (x y:Code) (Q:Exit→St→Prop) (σ:St) (v:V):Prop :=
 match v with
 | .d (.bool t)=>KO t (IL P m x Q σ) (IL P m y Q σ)
 | _=>False
theorem QG {x y:Code} {t:Bool}:pN P m x y Q σ (.d (.bool t))=KO t (IL P m x Q σ) (IL P m y Q σ):=rfl
theorem Wt {c:Operand} {x y:Code}:IL P m (.cond c x y) Q σ=pN P m x y Q σ (σ.eval c):=by
 show (match σ.eval c with
  | .d (.bool t)=>(t=true→IL P m x Q σ)∧(t=false→IL P m y Q σ)
  | _=>False)=_
 rfl
theorem ST {id:Nat} {c:Code}:IL P m (.block id c) Q σ=IL P m c (HU id Q) σ:=rfl
theorem fK {id:Nat}:IL P m (.exit id) Q σ=Q (.exit id) σ:=rfl
theorem Hy:IL P m .ret Q σ=Q .ret σ:=rfl
section
variable {K:St→Prop} {d:Option Tmp} {ty:TypeId} {pos:String} {af:Array Edge} {g:Option (Nat×Bool)} {x y z:Operand} {t s:TypeId} {f n:Nat}
theorem gL {o:Oper} (h:Vx P m o K σ=∃ x news,(HS P m.st σ o=some x∧news=[])∧K (St.put ⟨σ.tmps,σ.slots++news⟩ o.dst x)):Vx P m o K σ=∃ x,HS P m.st σ o=some x∧K (σ.put o.dst x):=by
 rw[h];apply propext;constructor
 · rintro⟨x,news,⟨h1,rfl⟩,h2⟩;rw[List.append_nil] at h2;exact⟨x,h1,h2⟩
 · rintro⟨x,h1,h2⟩;exact⟨x,[],⟨h1,rfl⟩,by rw[List.append_nil];exact h2⟩
theorem T9 {v:V} {K:V→Prop}:(∃ x,some v=some x∧K x)=K v:=by
 apply propext;constructor
 · rintro⟨x,h,hk⟩;cases h;exact hk
 · exact fun h=>⟨v,rfl,h⟩
variable {ops:Array Oper} {rest:List Oper}
def FS (P:Program) (m:Mode) (ops:Array Oper) (K:St→Prop) (rest:List Oper) (σ:St) (d:Option Tmp) (v:Option V):Prop:=∃ x,v=some x∧Bj P m ops K rest (σ.put d x)
theorem D2 {v:V}:FS P m ops K rest σ d (some v)=Bj P m ops K rest (σ.put d v):=T9
def jW (P:Program) (m:Mode) (ops:Array Oper) (K:St→Prop) (T:List (Oper×List Nat)) (N:List (Nat×List Nat)) (σ:St):Prop:=GH P m ops N σ.slots K T σ
theorem bV {T:List (Oper×List Nat)} {N:List (Nat×List Nat)} {ts:List V} {sl:List Ah}:jW P m ops K T N ⟨ts,sl⟩=GH P m ops N sl K T ⟨ts,sl⟩:=rfl
def pQ (P:Program) (m:Mode) (ops:Array Oper) (N:List (Nat×List Nat)) (sl0:List Ah) (K:St→Prop) (ns:List Nat) (T:List (Oper×List Nat)) (σ:St):Prop:=FH sl0 σ.slots ns N∧GH P m ops N sl0 K T σ
theorem fM {T:List (Oper×List Nat)} {N:List (Nat×List Nat)} {sl0:List Ah} {ns:List Nat} {ts:List V} {sl:List Ah}:pQ P m ops N sl0 K ns T ⟨ts,sl⟩=(FH sl0 sl ns N∧GH P m ops N sl0 K T ⟨ts,sl⟩):=rfl
theorem dW {KE:List (Nat×List Nat)→St→Prop} {ts N:List (Nat×List Nat)}:KK P m ops ts KE [] N σ=KE N σ:=rfl
theorem YR {KE:List (Nat×List Nat)→St→Prop} {ts N:List (Nat×List Nat)} {i:Nat} {o:Oper} {E:List (Nat×Oper)}:KK P m ops ts KE ((i,o)::E) N σ=Bj P m ops (KK P m ops ts KE E (if OS ts i=true then (i,GU o σ)::N else N)) [o] σ:=rfl
theorem aJ {N:List (Nat×List Nat)} {sl0:List Ah}:GH P m ops N sl0 K [] σ=K σ:=rfl
def UG (P:Program) (m:Mode) (ops:Array Oper) (N:List (Nat×List Nat)) (sl0:List Ah) (K:St→Prop) (ns:List Nat) (T:List (Oper×List Nat)) (σ:St) (d:Option Tmp) (f:FuncId) (xs near:List V):Prop :=
 m.st=false∧∃ (ks π:List Nat) (args:List V) (slc:List Ah) (q:V) (slc':List Ah),CN P f args slc q slc'∧BO slc∧ks.Nodup∧Ji σ.slots ks∧π.Nodup∧EQ true (kill ks σ.slots) π π slc∧Ib true (kill ks σ.slots) π (xs.map (Lr σ.slots ks)) args ∧
  (∀ k∈ks++π,Bc σ.slots near k)∧jX (kill ks σ.slots) π q slc' fun z r=>FH sl0 r ns N∧GH P m ops N sl0 K T (St.put ⟨σ.tmps,r⟩ d z)
def lX (t:Bool) (A B:Prop):Prop:=if t=true then A else B
theorem Qj {A B:Prop}:lX true A B=A:=rfl
theorem Wy {A B:Prop}:lX false A B=B:=rfl
def UV (P:Program) (m:Mode) (ops:Array Oper) (N:List (Nat×List Nat)) (sl0:List Ah) (K:St→Prop) (ns:List Nat) (T:List (Oper×List Nat)) (σ:St) (d:Option Tmp) (v:V) (xs:List V):Prop :=
 match v with
 | .fn f caps=>UG P m ops N sl0 K ns T σ d f (xs++caps) (.fn f caps::xs)
 | _=>False
theorem KX {N:List (Nat×List Nat)} {sl0:List Ah} {ns:List Nat} {T:List (Oper×List Nat)} {f:FuncId} {caps xs:List V}:UV P m ops N sl0 K ns T σ d (.fn f caps) xs=UG P m ops N sl0 K ns T σ d f (xs++caps) (.fn f caps::xs):=rfl
def XB (P:Program) (m:Mode) (ops:Array Oper) (N:List (Nat×List Nat)) (sl0:List Ah) (K:St→Prop) (ns:List Nat) (T:List (Oper×List Nat)) (σ:St) (d:Option Tmp) (op:Op):Prop :=
 match op with
 | .call c=>match c.callee with
   | .value (.func f)=>UG P m ops N sl0 K ns T σ d f (c.args.toList.map σ.eval) (.fn f []::c.args.toList.map σ.eval)
   | .value v=>UV P m ops N sl0 K ns T σ d (σ.eval v) (c.args.toList.map σ.eval)
   | _=>False
 | _=>False
theorem jS {N:List (Nat×List Nat)} {sl0:List Ah} {ns:List Nat} {T:List (Oper×List Nat)} {o:Oper} {c:Call} {v:Operand} (ho:o.op=.call c) (hc:c.callee=.value v) :
 (∃ z r,TN P m o σ z r∧FH sl0 r ns N∧GH P m ops N sl0 K T (St.put ⟨σ.tmps,r⟩ d z))=UV P m ops N sl0 K ns T σ d (σ.eval v) (c.args.toList.map σ.eval):=by
 apply propext;constructor
 · rintro⟨z,r,⟨h0,v',f,caps,c',ho',hc',hf,ks,π,aa,slc,q,slc',h1,h2,h3,h4,h5,h6,h7,h8,r1,ys,b1,b2,rfl,rfl⟩,hs,hk⟩;rw[ho] at ho'
   cases ho'
   rw[hc] at hc'
   cases hc'
   rw[hf,KX];exact⟨h0,ks,π,aa,slc,q,slc',h1,h2,h3,h4,h5,h6,h7,h8,_,ys,b1,b2,hs,hk⟩
 · intro h
   cases hv:σ.eval v with
   | fn f caps =>
     rw[hv,KX] at h;obtain⟨h0,ks,π,aa,slc,q,slc',h1,h2,h3,h4,h5,h6,h7,h8,r1,ys,b1,b2,hs,hk⟩:=h;exact⟨_,_,⟨h0,v,f,caps,c,ho,hc,hv,ks,π,aa,slc,q,slc',h1,h2,h3,h4,h5,h6,h7,h8,r1,ys,b1,b2,rfl,rfl⟩,hs,hk⟩
   | _=>rw[hv] at h;exact h.elim
theorem YL {N:List (Nat×List Nat)} {sl0:List Ah} {o:Oper} {ns:List Nat} {T:List (Oper×List Nat)}:GH P m ops N sl0 K ((o,ns)::T) σ=lX (Is o) (XB P m ops N sl0 K ns T σ o.dst o.op) (Bj P m ops (pQ P m ops N sl0 K ns T) [o] σ):=by
 show (if Is o=true then _ else _)=_
 cases hc:Is o with
 | false=>rfl
 | true =>
   rw[if_pos rfl,Qj];unfold Is at hc;split at hc
   · rename_i c ho;split at hc
     · rename_i v hf;rw[jS ho hf];unfold XB;rw[ho];simp only[hf]
       cases v with
       | func f =>
         show UV P m ops N sl0 K ns T σ o.dst (.fn f []) _=_;rw[KX,List.append_nil]
       | tmp t=>rfl
       | _=>simp[jN] at hc
     · cases hc
   · cases hc
def fN (P:Program) (m:Mode) (ops:Array Oper) (N:List (Nat×List Nat)) (sl0:List Ah) (K:St→Prop) (ns:List Nat) (T:List (Oper×List Nat)) (Tm:List V) (d:Option Tmp) (sl:List Ah) (π:List Nat) (r':Option V) (ys:Option (List Ah)):Prop :=
 ∃ r ys',r'=some r∧ys=some ys'∧FH sl0 (B1 sl π (ys'.take π.length)++ys'.drop π.length) ns N∧GH P m ops N sl0 K T (St.put ⟨Tm,B1 sl π (ys'.take π.length)++ys'.drop π.length⟩ d r)
theorem W1 {N:List (Nat×List Nat)} {sl0:List Ah} {ns:List Nat} {T:List (Oper×List Nat)} {Tm:List V} {sl:List Ah} {π:List Nat} {r:V} {ys:List Ah}:fN P m ops N sl0 K ns T Tm d sl π (some r) (some ys)=(FH sl0 (B1 sl π (ys.take π.length)++ys.drop π.length) ns N∧GH P m ops N sl0 K T (St.put ⟨Tm,B1 sl π (ys.take π.length)++ys.drop π.length⟩ d r)):=by
 apply propext;constructor
 · rintro⟨_,_,h1,h2,h⟩;cases h1;cases h2;exact h
 · exact fun h=>⟨_,_,rfl,rfl,h⟩
theorem Av {n:Nat} {s b:Bool} {ops:Array Oper} (ts:List (Nat×List Nat)) (h:MB ops ts=true) (h2:KK P ⟨n,s,false,true⟩ ops ts (jW P ⟨n,s,false,true⟩ ops (Q .normal) (Lt ops.toList ts)) (KD ts 0 ops.toList) [] σ):Sq P ⟨n,s,b,true⟩ ops Q σ:=.inl (.inr (.inl ⟨ts,h,h2⟩))
def lD (P:Program) (m:Mode) (ops:Array Oper) (K:St→Prop) (ts:List (Nat×List Nat)) (N:List (Nat×List Nat)) (σ:St):Prop:=OY P m ops N σ.slots K ts.length ts σ
theorem aX {T:List (Nat×List Nat)} {N:List (Nat×List Nat)} {ts:List V} {sl:List Ah}:lD P m ops K T N ⟨ts,sl⟩=OY P m ops N sl K T.length T ⟨ts,sl⟩:=rfl
theorem Yd {N T:List (Nat×List Nat)} {sl0:List Ah}:OY P m ops N sl0 K 0 T σ=K σ:=rfl
def Q4 (F:Nat×List Nat→Prop):List (Nat×List Nat)→Prop
 | []=>True
 | p::ps=>F p∧Q4 F ps
theorem AF {F:Nat×List Nat→Prop} {p:Nat×List Nat}:Q4 F [p]=F p:=by simp[Q4]
theorem AE {F:Nat×List Nat→Prop} {p q:Nat×List Nat} {ps:List (Nat×List Nat)}:Q4 F (p::q::ps)=(F p∧Q4 F (q::ps)):=rfl
theorem SU {F:Nat×List Nat→Prop}:∀ {ps:List (Nat×List Nat)},Q4 F ps→∀ p∈ps,F p
 | [],_,p,hp=>by cases hp
 | q::ps,h,p,hp=>by
   rcases List.mem_cons.1 hp with rfl|hp
   · exact h.1
   · exact SU h.2 p hp
theorem BN {N T:List (Nat×List Nat)} {sl0:List Ah} {n:Nat} (ps:List (Nat×List Nat)) (h:T.filter (N4 (BF ops.toList) T)=ps) (h2:Q4 (fun p=>GH P m ops N sl0 (OY P m ops N sl0 K n (T.erase p)) (Lt ops.toList [p]) σ) ps):OY P m ops N sl0 K (n+1) T σ :=
 fun p hp hr=>SU h2 p (by rw[←h];exact Mb.2 ⟨hp,hr⟩)
theorem J6 {n:Nat} {s b:Bool} {ops:Array Oper} (ts:List (Nat×List Nat)) (h:Pn ops ts=true) (h2:KK P ⟨n,s,false,true⟩ ops ts (lD P ⟨n,s,false,true⟩ ops (Q .normal) ts) (KD ts 0 ops.toList) [] σ):Sq P ⟨n,s,b,true⟩ ops Q σ:=.inl (.inr (.inr ⟨ts,h,h2⟩))
theorem FC:Bj P m ops K [] σ=K σ:=rfl
theorem GY {op:Op}:Bj P m ops K (⟨d,op,ty,pos,af,none⟩::rest) σ=Vx P m ⟨d,op,ty,pos,af,none⟩ (Bj P m ops K rest) σ:=rfl
theorem CC {op:Op} (h:Vx P m ⟨d,op,ty,pos,af,none⟩ (Bj P m ops K rest) σ=∃ x news,(HS P m.st σ ⟨d,op,ty,pos,af,none⟩=some x∧news=[])∧Bj P m ops K rest (St.put ⟨σ.tmps,σ.slots++news⟩ d x)):Bj P m ops K (⟨d,op,ty,pos,af,none⟩::rest) σ=FS P m ops K rest σ d (HS P m.st σ ⟨d,op,ty,pos,af,none⟩):=by
 rw[GY];exact gL h
theorem H4:Bj P m ops K (⟨d,.move x,ty,pos,af,none⟩::rest) σ=Bj P m ops K rest (σ.put d (evalT P ty σ x)):=(CC rfl).trans T9
theorem D0:Bj P m ops K (⟨d,.assign x,ty,pos,af,none⟩::rest) σ=Bj P m ops K rest (σ.put d (evalT P ty σ x)):=(CC rfl).trans T9
def OI (t a b:V):Option V :=
 match t with
 | .d (.bool t)=>some (Ks t a b)
 | _=>none
theorem HP:Bj P m ops K (⟨d,.pick x y z,ty,pos,af,none⟩::rest) σ=FS P m ops K rest σ d (OI (σ.eval x) (σ.eval y) (σ.eval z)):=CC rfl
theorem Fg {op:BinOp}:Bj P m ops K (⟨d,.binOp op t x y s,ty,pos,af,none⟩::rest) σ=FS P m ops K rest σ d (GB P σ.slots t op (σ.eval x) (σ.eval y)):=CC rfl
theorem jL {op:UnOp}:Bj P m ops K (⟨d,.unOp op t x,ty,pos,af,none⟩::rest) σ=FS P m ops K rest σ d (wL op (σ.eval x)):=CC rfl
def pF (P:Program) (s t:TypeId) (x:V):Option V :=
 match P.underlying s,P.underlying t,x with
 | some _,some (.int k),.d (.int _ n)=>some (V.d (.int k (k.wrap n)))
 | _,_,_=>none
theorem Xd:Bj P m ops K (⟨d,.convert s t x,ty,pos,af,none⟩::rest) σ=FS P m ops K rest σ d (pF P s t (σ.eval x)):=CC rfl
def nN (P:Program) (t:TypeId) (sl:List Ah) (x:V):Option V :=
 match BR P t with
 | some _=>(Ko sl x).map fun (n:Nat)=>V.d (.int .i64 (n:Int))
 | none=>none
theorem T2:Bj P m ops K (⟨d,.call ⟨.builtin .len,#[x],#[t]⟩,ty,pos,af,none⟩::rest) σ=FS P m ops K rest σ d (nN P t σ.slots (σ.eval x)):=CC rfl
def xR (x y:V):Option V :=
 match [x,y] with
 | [.d (.int k a),.d (.int _ b)]=>some (V.d (.int k (if b > a then b else a)))
 | _=>none
def zZ (x y:V):Option V :=
 match [x,y] with
 | [.d (.int k a),.d (.int _ b)]=>some (V.d (.int k (if b<a then b else a)))
 | _=>none
theorem nT {ts:Array TypeId}:Bj P m ops K (⟨d,.call ⟨.builtin .max,#[x,y],ts⟩,ty,pos,af,none⟩::rest) σ=FS P m ops K rest σ d (xR (σ.eval x) (σ.eval y)):=CC rfl
theorem mH {ts:Array TypeId}:Bj P m ops K (⟨d,.call ⟨.builtin .min,#[x,y],ts⟩,ty,pos,af,none⟩::rest) σ=FS P m ops K rest σ d (zZ (σ.eval x) (σ.eval y)):=CC rfl
def zQ (P:Program) (t:TypeId) (sl:List Ah) (x i:V):Option V :=
 match Ho i with
 | some n=>Kl P t sl x n
 | none=>none
theorem RV:Bj P m ops K (⟨d,.indexAddr t x y,ty,pos,af,none⟩::rest) σ=FS P m ops K rest σ d (zQ P t σ.slots (σ.eval x) (σ.eval y)):=CC rfl
theorem IX:Bj P m ops K (⟨d,.load t x,ty,pos,af,none⟩::rest) σ=FS P m ops K rest σ d (Io P m.st t σ.slots (σ.eval x)):=CC rfl
theorem EK:Bj P m ops K (⟨d,.fieldAddr t x f,ty,pos,af,none⟩::rest) σ=FS P m ops K rest σ d (C6 P t σ.slots (σ.eval x) f):=CC rfl
theorem bX:Bj P m ops K (⟨d,.field t x f,ty,pos,af,none⟩::rest) σ=FS P m ops K rest σ d (Qh P t (σ.eval x) f):=CC rfl
def AAe (x:V) (i:Nat):Option V :=
 match x with
 | .tup xs=>xs[i]?
 | _=>none
theorem VA:Bj P m ops K (⟨d,.extract x f,ty,pos,af,none⟩::rest) σ=FS P m ops K rest σ d (AAe (σ.eval x) f):=CC rfl
def AAQ (sl:List Ah) (x:V):Option V :=
 match x with
 | .ptr s p=>match sl[s]? with
   | some (.var _ _)=>some (V.ptr s p)
   | _=>none
 | .cptr ds=>some (.cptr ds)
 | _=>none
theorem UH:Bj P m ops K (⟨d,.nilCheck x,ty,pos,af,none⟩::rest) σ=FS P m ops K rest σ d (AAQ σ.slots (σ.eval x)):=CC rfl
def gD (P:Program) (e:TypeId) (z:List V) (ps:List (Nat×V)):Option V:=(E1 (fun i=>some (i*P.cellsOf e,P.cellsOf e)) z ps).map .agg
def gX (P:Program) (t:TypeId) (ps:List (Nat×V)):Option V :=
 match P.underlying t,Bn P t with
 | some (.struct _),some z=>(E1 (MJ P t) z ps).map .agg
 | some (.array _ e),some z=>gD P e z ps
 | _,_=>none
theorem eJ {ps:Array (Nat×Operand)}:Bj P m ops K (⟨d,.build t ps,ty,pos,af,none⟩::rest) σ=FS P m ops K rest σ d (gX P t (ps.toList.map fun p=>(p.1,σ.eval p.2))):=CC rfl
def pL (P:Program) (m:Mode) (ops:Array Oper) (K:St→Prop) (rest:List Oper) (σ:St) (d:Option Tmp) (t:TypeId) (v:Option (List V)):Prop:=∃ z,v=some z∧Bj P m ops K rest (St.put ⟨σ.tmps,σ.slots++[.var t z]⟩ d (.ptr σ.slots.length 0))
theorem YQ {v:List V}:pL P m ops K rest σ d t (some v)=Bj P m ops K rest (St.put ⟨σ.tmps,σ.slots++[.var t v]⟩ d (.ptr σ.slots.length 0)):=by
 apply propext;constructor
 · rintro⟨x,h,hk⟩;cases h;exact hk
 · exact fun h=>⟨v,rfl,h⟩
theorem cG:Bj P m ops K (⟨d,.alloc t,ty,pos,af,none⟩::rest) σ=pL P m ops K rest σ d t (Bn P t):=by
 rw[GY];apply propext;constructor
 · rintro⟨x,news,⟨z,h1,rfl,rfl⟩,h2⟩;exact⟨z,h1,h2⟩
 · rintro⟨z,h1,h2⟩;exact⟨_,_,⟨z,h1,rfl,rfl⟩,h2⟩
theorem UU:Bj P m ops K (⟨d,.box t x,ty,pos,af,none⟩::rest) σ=((Bi (σ.eval x)).all V.cell=true∧Bj P m ops K rest (St.put ⟨σ.tmps,σ.slots++[.var t (Bi (σ.eval x))]⟩ d (.ptr σ.slots.length 0))):=by
 rw[GY];apply propext;constructor
 · rintro⟨y,news,⟨h1,rfl,rfl⟩,h2⟩;exact⟨h1,h2⟩
 · rintro⟨h1,h2⟩;exact⟨_,_,⟨h1,rfl,rfl⟩,h2⟩
def Ga (P:Program) (m:Mode) (ops:Array Oper) (K:St→Prop) (rest:List Oper) (σ:St) (d:Option Tmp) (r:X):Prop:=Bj P m ops K rest (St.put ⟨σ.tmps,σ.slots++(inst σ.slots.length r).2⟩ d (inst σ.slots.length r).1)
def S6 (P:Program) (m:Mode) (ops:Array Oper) (K:St→Prop) (rest:List Oper) (σ:St) (d:Option Tmp) (fn:FuncId) (p:Option (List X)) (xs:List V):Prop :=
 (∃ r,jF P fn p r∧Ga P m ops K rest σ d r)∨(Zc P m σ.slots fn xs (fun z sl'=>Bj P m ops K rest (St.put ⟨σ.tmps,sl'⟩ d z))∨fQ P m σ.slots fn xs fun z sl'=>Bj P m ops K rest (St.put ⟨σ.tmps,sl'⟩ d z))
def Zh (P:Program) (m:Mode) (ops:Array Oper) (K:St→Prop) (rest:List Oper) (σ:St) (d:Option Tmp) (v:V) (xs:List V):Prop :=
 match v with
 | .fn f caps=>S6 P m ops K rest σ d f (Ew σ.slots (xs++caps)) (xs++caps)
 | _=>False
theorem gE {f:FuncId} {caps xs:List V}:Zh P m ops K rest σ d (.fn f caps) xs=S6 P m ops K rest σ d f (Ew σ.slots (xs++caps)) (xs++caps):=rfl
theorem cB {v:Operand} {args:Array Operand} {ts:Array TypeId}:Bj P m ops K (⟨d,.call ⟨.value v,args,ts⟩,ty,pos,af,none⟩::rest) σ=Zh P m ops K rest σ d (σ.eval v) (args.toList.map σ.eval):=by
 rw[GY];unfold Zh S6 Ga;show ((∃ x news,AQ P m.st σ.slots.length σ _ x news∧_)∨(match σ.eval v with | .fn f caps=>_|_=>False))=_;unfold AQ;simp only;generalize σ.eval v=g
 cases g with
 | fn f caps =>
   simp only;apply propext;constructor
   · rintro (⟨y,news,⟨r,h1,rfl,rfl⟩,h2⟩|h)
     · exact .inl ⟨r,h1,h2⟩
     · exact .inr h
   · rintro (⟨r,h1,h2⟩|h)
     · exact .inl ⟨_,_,⟨r,h1,rfl,rfl⟩,h2⟩
     · exact .inr h
 | _=>simp
theorem MG {fn:FuncId} {args:Array Operand} {ts:Array TypeId}:Bj P m ops K (⟨d,.call ⟨.value (.func fn),args,ts⟩,ty,pos,af,none⟩::rest) σ=S6 P m ops K rest σ d fn (Ew σ.slots (args.toList.map σ.eval)) (args.toList.map σ.eval):=by
 rw[cB];show Zh P m ops K rest σ d (.fn fn []) _=_;rw[gE,List.append_nil]
theorem Ab {fn:FuncId} {xs:List X} {ys:List V} {r:X} (h:BA P fn xs r) (h2:Ga P m ops K rest σ d r):S6 P m ops K rest σ d fn (some xs) ys:=.inl ⟨r,yB h,h2⟩
def Yt (sl:List Ah) (ks π:List Nat) (xs args:List V) (slc:List Ah):Prop :=
 BO slc∧ks.Nodup∧Ji sl ks∧π.Nodup∧EQ true (kill ks sl) π π slc∧Ib true (kill ks sl) π (xs.map (Lr sl ks)) args
def iJ (P:Program) (m:Mode) (ops:Array Oper) (K:St→Prop) (rest:List Oper) (T:List V) (d:Option Tmp) (sl:List Ah) (π:List Nat) (r':Option V) (ys:Option (List Ah)):Prop :=
 ∃ r ys',r'=some r∧ys=some ys'∧Bj P m ops K rest (St.put ⟨T,B1 sl π (ys'.take π.length)++ys'.drop π.length⟩ d r)
theorem We {T:List V} {sl:List Ah} {π:List Nat} {r:V} {ys:List Ah}:iJ P m ops K rest T d sl π (some r) (some ys)=Bj P m ops K rest (St.put ⟨T,B1 sl π (ys.take π.length)++ys.drop π.length⟩ d r):=by
 apply propext;constructor
 · rintro⟨_,_,h1,h2,h⟩;cases h1;cases h2;exact h
 · exact fun h=>⟨_,_,rfl,rfl,h⟩
theorem Ac {n:Nat} {fn:FuncId} {p:Option (List X)} {xs args:List V} {slc slc':List Ah} {r:V} (h:CN P fn args slc r slc') (ks π:List Nat) (he:Yt σ.slots ks π xs args slc)
 (ha:iJ P ⟨n,false,true,dr⟩ ops K rest σ.tmps d (kill ks σ.slots) π (bG (π++List.range' (kill ks σ.slots).length (slc'.length - π.length)) r) (Mt (π++List.range' (kill ks σ.slots).length (slc'.length - π.length)) slc')):S6 P ⟨n,false,true,dr⟩ ops K rest σ d fn p xs:=by
 obtain⟨h1,h2,h3,h4,h5,h6⟩:=he;obtain⟨r',ys,k1,k2,k3⟩:=ha;exact .inr (.inl ⟨rfl,rfl,ks,π,args,slc,r,slc',h,h1,h2,h3,h4,h5,h6,r',ys,k1,k2,k3⟩)
theorem Ax {n:Nat} {b:Bool} {N:List (Nat×List Nat)} {sl0:List Ah} {ns:List Nat} {T:List (Oper×List Nat)} {fn:FuncId} {xs near args:List V} {slc slc':List Ah} {r:V} (h:CN P fn args slc r slc') (ks π:List Nat) (he:Yt σ.slots ks π xs args slc) (hn:∀ k∈ks++π,Bc σ.slots near k)
 (ha:fN P ⟨n,false,b,dr⟩ ops N sl0 K ns T σ.tmps d (kill ks σ.slots) π (bG (π++List.range' (kill ks σ.slots).length (slc'.length - π.length)) r) (Mt (π++List.range' (kill ks σ.slots).length (slc'.length - π.length)) slc')):UG P ⟨n,false,b,dr⟩ ops N sl0 K ns T σ d fn xs near:=by
 obtain⟨h1,h2,h3,h4,h5,h6⟩:=he;obtain⟨r',ys,k1,k2,k3⟩:=ha;exact⟨rfl,ks,π,args,slc,r,slc',h,h1,h2,h3,h4,h5,h6,hn,r',ys,k1,k2,k3⟩
def kJ (P:Program) (t:TypeId) (σ:St) (x:V) (lo hi:Option Operand):Option V :=
 match Ko σ.slots x with
 | some n=>WJ P t x (Dx σ lo 0) (Dx σ hi n)
 | none=>none
def XA (P:Program) (t:TypeId) (σ:St) (s:Nat) (lo hi:Option Operand):Option (V×List Ah) :=
 match Ko σ.slots (.ref s) with
 | some n=>PM P t σ.slots s lo hi (Dx σ lo 0) (Dx σ hi n)
 | none=>none
def fY (P:Program) (m:Mode) (ops:Array Oper) (K:St→Prop) (rest:List Oper) (σ:St) (d:Option Tmp) (v:Option (V×List Ah)):Prop:=m.tc=true∧m.st=false∧∃ z sl',v=some (z,sl')∧Bj P m ops K rest (St.put ⟨σ.tmps,sl'⟩ d z)
theorem XD {z:V} {sl':List Ah}:fY P m ops K rest σ d (some (z,sl'))=(m.tc=true∧m.st=false∧Bj P m ops K rest (St.put ⟨σ.tmps,sl'⟩ d z)):=by
 apply propext;constructor
 · rintro⟨h1,h2,_,_,h,hk⟩;cases h;exact⟨h1,h2,hk⟩
 · exact fun ⟨h1,h2,h⟩=>⟨h1,h2,_,_,rfl,h⟩
def X9 (P:Program) (m:Mode) (ops:Array Oper) (K:St→Prop) (rest:List Oper) (σ:St) (d:Option Tmp) (t:TypeId) (x:V) (lo hi:Option Operand):Prop :=
 match x with
 | .ref s=>fY P m ops K rest σ d (XA P t σ s lo hi)
 | x=>FS P m ops K rest σ d (kJ P t σ x lo hi)
theorem dZ {lo hi:Option Operand}:Bj P m ops K (⟨d,.slice t x lo hi none,ty,pos,af,none⟩::rest) σ=X9 P m ops K rest σ d t (σ.eval x) lo hi:=by
 rw[GY];unfold X9
 have quiet:∀ v,σ.eval x=v→(∃ z news,AQ P m.st σ.slots.length σ ⟨d,.slice t x lo hi none,ty,pos,af,none⟩ z news∧Bj P m ops K rest (St.put ⟨σ.tmps,σ.slots++news⟩ d z))=FS P m ops K rest σ d (kJ P t σ v lo hi):=by
  rintro v rfl;unfold FS;apply propext;constructor
  · rintro⟨z,news,⟨h1,rfl⟩,h2⟩;rw[List.append_nil] at h2;exact⟨z,h1,h2⟩
  · rintro⟨z,h1,h2⟩;exact⟨z,[],⟨h1,rfl⟩,by rw[List.append_nil];exact h2⟩
 cases hv:σ.eval x with
 | ref s =>
   show (match σ.eval x with | .ref s=>_|_=>_)=_;rw[hv];simp only;unfold fY XA;apply propext;constructor
   · rintro⟨h1,h2,n,z,sl',h3,h4,h5⟩;refine⟨h1,h2,z,sl',?_,h5⟩;rw[h3];exact h4
   · rintro⟨h1,h2,z,sl',h3,h4⟩;split at h3
     · rename_i n hn;exact⟨h1,h2,n,z,sl',hn,h3,h4⟩
     · cases h3
 | _ =>
   show (match σ.eval x with | .ref s=>_|_=>_)=_;rw[hv];simp only;exact quiet _ hv
def pC (f:FuncId) (first:Array Operand) (caps:List V):Option V:=if first.isEmpty=true then some (.fn f caps) else none
theorem Ua {fn:FuncId} {first caps:Array Operand}:Bj P m ops K (⟨d,.makeFunc (.func fn) first caps,ty,pos,af,none⟩::rest) σ=FS P m ops K rest σ d (pC fn first (caps.toList.map σ.eval)):=CC rfl
def oY (P:Program) (m:Mode) (ops:Array Oper) (K:St→Prop) (rest:List Oper) (σ:St) (d:Option Tmp) (v:Option (List Ah)):Prop:=∃ sl',v=some sl'∧Bj P m ops K rest (St.put ⟨σ.tmps,sl'⟩ d .any)
theorem Ye {v:List Ah}:oY P m ops K rest σ d (some v)=Bj P m ops K rest (St.put ⟨σ.tmps,v⟩ d .any):=by
 apply propext;constructor
 · rintro⟨x,h,hk⟩;cases h;exact hk
 · exact fun h=>⟨v,rfl,h⟩
def pB (P:Program) (m:Mode) (ops:Array Oper) (K:St→Prop) (rest:List Oper) (σ:St) (d:Option Tmp) (t:TypeId) (ok:Bool) (q:Option (Nat×TypeId×List (Ky×Vl))) (k:Option Ky) (z:Option Vl):Prop :=
 ∃ s es ky z',q=some (s,t,es)∧k=some ky∧z=some z'∧FR P t ky∧Bj P m ops K rest (σ.put d (Sw ok (FN es ky) z'))
theorem Yk {ok:Bool} {s:Nat} {t':TypeId} {es:List (Ky×Vl)} {ky:Ky} {z:Vl}:pB P m ops K rest σ d t ok (some (s,t',es)) (some ky) (some z)=(t'=t∧FR P t ky∧Bj P m ops K rest (σ.put d (Sw ok (FN es ky) z))):=by
 apply propext;constructor
 · rintro⟨_,_,_,_,h1,h2,h3,h4,h5⟩;cases h1;cases h2;cases h3;exact⟨rfl,h4,h5⟩
 · rintro⟨rfl,h4,h5⟩;exact⟨_,_,_,_,rfl,rfl,rfl,h4,h5⟩
theorem YM {ok:Bool}:Bj P m ops K (⟨d,.lookup t x y ok,ty,pos,af,none⟩::rest) σ=pB P m ops K rest σ d t ok (JI σ.slots (σ.eval x)) (O2 (σ.eval y)) (Kt P t):=by
 rw[GY];apply propext;constructor
 · rintro⟨v,news,⟨s,es,ky,z,h1,h2,h3,h4,rfl,rfl⟩,h6⟩;rw[List.append_nil] at h6;exact⟨s,es,ky,z,h1,h2,h3,h4,h6⟩
 · rintro⟨s,es,ky,z,h1,h2,h3,h4,h6⟩;exact⟨_,[],⟨s,es,ky,z,h1,h2,h3,h4,rfl,rfl⟩,by rw[List.append_nil];exact h6⟩
theorem WO:Bj P m ops K (⟨d,.makeMap t none,ty,pos,af,none⟩::rest) σ=Bj P m ops K rest (St.put ⟨σ.tmps,σ.slots++[.blk (.mp t [])]⟩ d (.ref σ.slots.length)):=by
 rw[GY];apply propext;constructor
 · rintro⟨v,news,⟨rfl,rfl⟩,h6⟩;exact h6
 · exact fun h=>⟨_,_,⟨rfl,rfl⟩,h⟩
def yC (P:Program) (m:Mode) (ops:Array Oper) (K:St→Prop) (rest:List Oper) (σ:St) (d:Option Tmp) (t:TypeId) (q:Option (Nat×TypeId×List (Ky×Vl))) (k:Option Ky) (v:Option Vl):Prop :=
 m.tc=true∧∃ s es ky v',q=some (s,t,es)∧k=some ky∧v=some v'∧FR P t ky∧Bj P m ops K rest (St.put ⟨σ.tmps,σ.slots.set s (.blk (.mp t (Hm es ky v')))⟩ d .any)
theorem cL {s:Nat} {t':TypeId} {es:List (Ky×Vl)} {ky:Ky} {v:Vl}:yC P m ops K rest σ d t (some (s,t',es)) (some ky) (some v)=(m.tc=true∧t'=t∧FR P t ky∧Bj P m ops K rest (St.put ⟨σ.tmps,σ.slots.set s (.blk (.mp t (Hm es ky v)))⟩ d .any)):=by
 apply propext;constructor
 · rintro⟨h0,_,_,_,_,h1,h2,h3,h4,h5⟩;cases h1;cases h2;cases h3;exact⟨h0,rfl,h4,h5⟩
 · rintro⟨h0,rfl,h4,h5⟩;exact⟨h0,_,_,_,_,rfl,rfl,rfl,h4,h5⟩
theorem RO:Bj P m ops K (⟨d,.mapUpdate t x y z,ty,pos,af,none⟩::rest) σ=yC P m ops K rest σ d t (JI σ.slots (σ.eval x)) (O2 (σ.eval y)) (cN (σ.eval z)):=rfl
theorem Z7:Bj P m ops K (⟨d,.store t x y,ty,pos,af,none⟩::rest) σ=oY P m ops K rest σ d (Iy P m.st t σ.slots (σ.eval x) (evalT P t σ y)):=rfl
def gT (P:Program) (m:Mode) (ops:Array Oper) (K:St→Prop) (rest:List Oper) (σ:St) (d:Option Tmp) (t:TypeId) (x y:V):Prop:=pO P m σ.slots t x y fun z sl'=>Bj P m ops K rest (St.put ⟨σ.tmps,sl'⟩ d z)
theorem YB:Bj P m ops K (⟨d,.call ⟨.builtin .append,#[x,y],#[t,t]⟩,ty,pos,af,none⟩::rest) σ=gT P m ops K rest σ d t (evalT P t σ x) (evalT P t σ y):=by
 rw[GY];show (t=t∧_)=_;simp only[true_and];rfl
def iH (P:Program) (m:Mode) (ops:Array Oper) (K:St→Prop) (rest:List Oper) (σ:St) (d:Option Tmp) (v:Option (V×Ah)):Prop:=∃ x y,v=some (x,y)∧Bj P m ops K rest (St.put ⟨σ.tmps,σ.slots++[y]⟩ d x)
theorem XW {v:V} {y:Ah}:iH P m ops K rest σ d (some (v,y))=Bj P m ops K rest (St.put ⟨σ.tmps,σ.slots++[y]⟩ d v):=by
 apply propext;constructor
 · rintro⟨x,y,h,hk⟩;cases h;exact hk
 · exact fun h=>⟨v,y,rfl,h⟩
def qD (n:Nat) (e:TypeId) (s len:Nat) (cells:List V):V×Ah :=
 match B0 cells with
 | some ds=>(.ref n,.arr e (cells.all GW) (Cs s len ds))
 | none=>(.lit n len,.var e cells)
def oO (P:Program) (n:Nat) (t:TypeId) (len:Nat) (ps:List (Nat×V)):Option (V×Ah) :=
 match BR P t with
 | none=>none
 | some e=>match Bn P e with
   | none=>none
   | some z=>if len*z.length≤16777216∧len≤9223372036854775807 then (E1 (fun i=>some (i*z.length,z.length)) (List.replicate len z).flatten ps).map (qD n e z.length len) else none
theorem ZL {n t len:Nat} {ps:List (Nat×V)}:gC P σ n t len ps=oO P n t len ps:=by
 unfold gC oO
 cases he:BR P t with
 | none=>rfl
 | some e =>
   simp only
   cases hz:Bn P e with
   | none=>rfl
   | some z =>
     simp only;split
     · cases hf:E1 (fun i=>some (i*z.length,z.length)) (List.replicate len z).flatten ps with
       | none=>rfl
       | some cells=>simp only[Option.map_some,qD];cases B0 cells<;>rfl
     · rfl
def UL (P:Program) (b:Bool) (sl:List Ah) (t:TypeId) (len:Nat) (ps:List (Nat×V)):Option (Ah×List Nat) :=
 if b=true then
  match BR P t with
  | none=>none
  | some e=>match Bn P e with
    | none=>none
    | some z=>if len*z.length≤16777216∧len≤9223372036854775807 then (E1 (fun i=>some (i*z.length,z.length)) (List.replicate len z).flatten ps).bind (UW e z.length len sl) else none
 else none
theorem cV {b:Bool} {sl:List Ah} {t len:Nat} {ps:List (Nat×V)}:Kc P b sl t len ps=UL P b sl t len ps:=by
 unfold Kc UL
 cases b with
 | false=>rfl
 | true =>
   simp only[if_true]
   cases he:BR P t with
   | none=>rfl
   | some e =>
     simp only
     cases hz:Bn P e with
     | none=>rfl
     | some z =>
       simp only;split
       · cases hf:E1 (fun i=>some (i*z.length,z.length)) (List.replicate len z).flatten ps<;>rfl
       · rfl
def WH (P:Program) (m:Mode) (ops:Array Oper) (K:St→Prop) (rest:List Oper) (σ:St) (d:Option Tmp) (q:Option (Ah×List Nat)) (v:Option (V×Ah)):Prop :=
 match q with
 | some (y,ks)=>Bj P m ops K rest (St.put ⟨σ.tmps,kill ks σ.slots++[y]⟩ d (.ref σ.slots.length))
 | none=>iH P m ops K rest σ d v
theorem YD {y:Ah} {ks:List Nat} {v:Option (V×Ah)}:WH P m ops K rest σ d (some (y,ks)) v=Bj P m ops K rest (St.put ⟨σ.tmps,kill ks σ.slots++[y]⟩ d (.ref σ.slots.length)):=rfl
theorem YC {v:Option (V×Ah)}:WH P m ops K rest σ d none v=iH P m ops K rest σ d v:=rfl
@[congr] theorem oZ {q q':Option (Ah×List Nat)} {v:Option (V×Ah)} (h:q=q'):WH P m ops K rest σ d q v=WH P m ops K rest σ d q' v:=by rw[h]
theorem PK {ps:Array (Nat×Operand)}:Bj P m ops K (⟨d,.buildSlice t n ps,ty,pos,af,none⟩::rest) σ=WH P m ops K rest σ d (UL P (m.tc&&!m.st) σ.slots t n (ps.toList.map fun p=>(p.1,σ.eval p.2))) (oO P σ.slots.length t n (ps.toList.map fun p=>(p.1,σ.eval p.2))):=by
 rw[GY];unfold Vx;simp only;rw[cV];split
 · rename_i hq;rw[hq];rfl
 · rename_i hq;rw[hq];apply propext;constructor
   · rintro⟨x,news,⟨y,h1,rfl⟩,h2⟩;exact⟨x,y,ZL (σ:=σ)▸h1,h2⟩
   · rintro⟨x,y,h1,h2⟩;exact⟨_,_,⟨y,by rw[ZL];exact h1,rfl⟩,h2⟩
def Zn (P:Program) (t:TypeId) (x y:V):Option (Int×Int×TypeId×List D) :=
 match BR P t,Ho x,Ho y with
 | some e,some m,some m'=>match Bn P e with
   | some z=>match B0 z with
     | some zd=>if z.all GW=true∧P.bytesOf e≤128 then some (m,m',e,zd) else none
     | none=>none
   | none=>none
 | _,_,_=>none
def pK (P:Program) (m:Mode) (ops:Array Oper) (K:St→Prop) (rest:List Oper) (σ:St) (d:Option Tmp) (v:Option (Int×Int×TypeId×List D)):Prop:=∃ q e zd,v=some (q,q,e,zd)∧(0≤q∧q≤1099511627776)∧Bj P m ops K rest (St.put ⟨σ.tmps,σ.slots++[.arr e true (List.replicate q.toNat zd)]⟩ d (.ref σ.slots.length))
theorem XL {q:Int} {e:TypeId} {zd:List D}:pK P m ops K rest σ d (some (q,q,e,zd))=((0≤q∧q≤1099511627776)∧Bj P m ops K rest (St.put ⟨σ.tmps,σ.slots++[.arr e true (List.replicate q.toNat zd)]⟩ d (.ref σ.slots.length))):=by
 apply propext;constructor
 · rintro⟨q,e,zd,h,hk⟩;cases h;exact hk
 · exact fun h=>⟨q,e,zd,rfl,h⟩
theorem RN:Bj P m ops K (⟨d,.makeSlice t x y,ty,pos,af,none⟩::rest) σ=pK P m ops K rest σ d (Zn P t (σ.eval x) (σ.eval y)):=by
 rw[GY];apply propext;constructor
 · rintro⟨x,news,⟨e,z,zd,q,h1,h2,h3,h4,h5,h6,h7,h8,h9,rfl,rfl⟩,h10⟩;refine⟨q,e,zd,?_,⟨h7,h8⟩,h10⟩;unfold Zn;rw[h1,h5,h6];simp only[h2,h3];rw[if_pos ⟨h4,h9⟩]
 · rintro⟨q,e,zd,h,⟨h7,h8⟩,h10⟩;unfold Zn at h;split at h
   · rename_i e' m1 m2 h1 h5 h6;split at h
     · rename_i z h2;split at h
       · rename_i zd' h3;split at h
         · rename_i h4
           cases h
           exact⟨_,_,⟨e,z,zd,q,h1,h2,h3,h4.1,h5,h6,h7,h8,h4.2,rfl,rfl⟩,h10⟩
         · cases h
       · cases h
     · cases h
   · cases h
def Rk (P:Program) (m:Mode) (ops:Array Oper) (K:St→Prop) (o:Oper) (rest:List Oper) (σ:St) (dj:Nat) (b:Bool) (v:V):Prop :=
 match v with
 | .d (.bool t)=>KO (t==b) (Bj P m ops K (o::rest) (σ.put (some dj) (.d (.bool b)))) (Bj P m ops K rest ((σ.put (some dj) (.d (.bool (!b)))).put o.dst (.tup [])))
 | .tup []=>Bj P m ops K rest (σ.put o.dst (.tup []))
 | _=>False
theorem EY {o:Oper} {dj:Nat} {b t:Bool}:Rk P m ops K o rest σ dj b (.d (.bool t))=W9 (t==b) (Bj P m ops K (o::rest) (σ.put (some dj) (.d (.bool b)))) (Bj P m ops K rest ((σ.put (some dj) (.d (.bool (!b)))).put o.dst (.tup []))):=rfl
theorem T3 {o:Oper} {dj:Nat} {b:Bool}:Rk P m ops K o rest σ dj b (.tup [])=Bj P m ops K rest (σ.put o.dst (.tup [])):=rfl
def Yn (P:Program) (m:Mode) (ops:Array Oper) (K:St→Prop) (o:Oper) (rest:List Oper) (σ:St) (b:Bool) (dj:Option Nat):Prop :=
 match dj with
 | some d=>Rk P m ops K o rest σ d b (σ.get d)
 | none=>False
theorem Fd {o:Oper} {dj:Nat} {b:Bool}:Yn P m ops K o rest σ b (some dj)=Rk P m ops K o rest σ dj b (σ.get dj):=rfl
theorem GP {op:Op} {j:Nat} {b:Bool}:Bj P m ops K (⟨d,op,ty,pos,af,some (j,b)⟩::rest) σ=Yn P m ops K ⟨d,op,ty,pos,af,none⟩ rest σ b ((ops[j]?).bind (·.dst)):=by
 have e:∀ σ',Bj P m ops K (⟨d,op,ty,pos,af,none⟩::rest) σ'=Vx P m ⟨d,op,ty,pos,af,some (j,b)⟩ (Bj P m ops K rest) σ':=fun σ'=>rfl;unfold Yn
 conv=>lhs;unfold Bj
 simp only
 cases hd:(ops[j]?).bind (·.dst) with
 | none=>rfl
 | some dj =>
   simp only;unfold Rk
   cases hv:σ.get dj with
   | d x=>cases x with
     | bool t =>
       simp only[KO,e]
       cases t<;>cases b<;>simp
     | _=>rfl
   | tup xs=>cases xs<;>rfl
   | _=>rfl
end
def Vu {ι:Type} (m:Mode) (I:ι→Prop) (S:ι→St) (μ:ι→Nat) (i:ι) (σ':St):Prop:=∃ j,I j∧μ j<μ i∧Le m σ' (S j)
theorem mP {c:Code} {ι:Type} (I:ι→Prop) (S:ι→St) (μ:ι→Nat) (i0:ι) (h0:I i0) (hle:Le m σ (S i0)) (hr:∀ i,I i→IL P m c (G5 (Vu m I S μ i) Q) (S i)):IL P m (.loop c) Q σ :=
 ⟨ι,I,S,μ,i0,h0,hle,hr⟩
end
def frame (n:Nat) (l:List (Nat×V)):List V:=l.foldl (fun T p=>T.set p.1 p.2) (List.replicate n .any)
theorem Ad {x:Int} (h1:-9223372036854775808≤x) (h2:x≤9223372036854775807):IntKind.i64.wrap x=x:=by rw[IntKind.wrap_i64];omega
theorem mU (k:Nat):((k:Int)<0)=False:=by
 apply propext;constructor
 · intro h;omega
 · exact False.elim
def DX (n lo hi:Int):Bool:=decide (lo≤n)&&decide (n≤hi)
theorem Bb {α:Type} {xs:List α} {k:Nat} {x:α} (hx:xs[k]? = some x):xs.take (k+1)=xs.take k++[x]:=by
 obtain⟨hk,rfl⟩:=BZ.1 hx;exact List.take_succ_eq_append_getElem hk
theorem De {α:Type} {xs:List α} {p:α→Bool} {k:Nat} {x:α} (hx:xs[k]? = some x):(xs.take (k+1)).all p=((xs.take k).all p&&p x):=by
 rw[Bb hx];simp
theorem EV {α:Type} {xs:List α} {p:α→Bool} {k:Nat} {x:α} (hx:xs[k]? = some x) (h:p x=false):xs.all p=false:=by
 rw[Bool.eq_false_iff,ne_eq,Gy];intro hh;have:=hh x (D1 hx);rw[h] at this
 cases this
theorem Vn {P:Program} {m:Mode} {Q:Exit→St→Prop} {σ:St} {c:Code} {ι:Type} (I:ι→Prop) (S:ι→St) (μ:ι→Nat) (i0:ι) (h0:I i0) (hle:Le m σ (S i0))
 (hr:∀ (I':ι→Prop) (S':ι→St) (μ':ι→Nat),(∀ i,I' i↔I i)→(∀ i,S' i=S i)→(∀ i,μ' i=μ i)→∀ i,I i→IL P m c (G5 (Vu m I' S' μ' i) Q) (S i)):IL P m (.loop c) Q σ :=
 mP I S μ i0 h0 hle fun i hi=>hr I S μ (fun _=>Iff.rfl) (fun _=>rfl) (fun _=>rfl) i hi
theorem Ae {m:Mode} {ι:Type} {I I':ι→Prop} {S S':ι→St} {μ μ':ι→Nat} {i:ι} {σ':St} (hI:∀ i,I' i↔I i) (hS:∀ i,S' i=S i) (hμ:∀ i,μ' i=μ i) (j:ι) (h1:I j) (h2:μ j<μ i) (h3:Le m σ' (S j)):Vu m I' S' μ' i σ' :=
 ⟨j,(hI j).2 h1,by rw[hμ,hμ];exact h2,by rw[hS];exact h3⟩
def JP:List Bool→List V→List V
 | true::ms,x::xs=>x::JP ms xs
 | false::ms,_::xs=>.any::JP ms xs
 | [],_::xs=>.any::JP [] xs
 | _,[]=>[]
def sets {α:Type} (xs:List α):List (Nat×α)→List α
 | []=>xs
 | p::ps=>sets (xs.set p.1 p.2) ps
theorem AB {P:Program} {m:Mode} {Q:Exit→St→Prop} {c:Code} {T:List V} {sl0:List Ah} {ι:Type} (mask:List Bool) (I:ι→Prop) (upd:ι→List (Nat×V)) (usl:ι→List (Nat×Ah)) (μ:ι→Nat) (i0:ι) (h0:I i0)
 (hle:Le m ⟨T,sl0⟩ ⟨sets (JP mask T) (upd i0),sets sl0 (usl i0)⟩)
 (hr:∀ (I':ι→Prop) (S':ι→St) (μ':ι→Nat),(∀ i,I' i↔I i)→(∀ i,S' i=⟨sets (JP mask T) (upd i),sets sl0 (usl i)⟩)→(∀ i,μ' i=μ i)→∀ i,I i→IL P m c (G5 (Vu m I' S' μ' i) Q) ⟨sets (JP mask T) (upd i),sets sl0 (usl i)⟩):IL P m (.loop c) Q ⟨T,sl0⟩ :=
 Vn I (fun i=>⟨sets (JP mask T) (upd i),sets sl0 (usl i)⟩) μ i0 h0 hle hr
def DB (a b:Int):Int:=a.fdiv (2 ^ min b.toNat 64)
def ET (a b:Int):Int:=IntKind.i64.wrap (a*2 ^ min b.toNat 64)
def C0 (a b:Int):Int:=IntKind.i64.wrap (BitVec.ofInt 64 a &&& BitVec.ofInt 64 b).toNat
def YI (a b:Int):Int:=IntKind.i64.wrap (BitVec.ofInt 64 a ||| BitVec.ofInt 64 b).toNat
def Bm (a b:Int):Int:=IntKind.i64.wrap (BitVec.ofInt 64 a ^^^ BitVec.ofInt 64 b).toNat
def FQ (a b:Int):Int:=IntKind.i64.wrap (BitVec.ofInt 64 a &&& ~~~BitVec.ofInt 64 b).toNat
section
variable {P:Program} {t:TypeId} {k k':IntKind} {a b:Int} {x y:Bool}
theorem iB:DN P t .add (.d (.int k a)) (.d (.int k b))=some (.d (.int k (k.wrap (a+b)))):=by simp[DN]
theorem Vc:DN P t .sub (.d (.int k a)) (.d (.int k b))=some (.d (.int k (k.wrap (a - b)))):=by simp[DN]
theorem iZ:DN P t .mul (.d (.int k a)) (.d (.int k b))=some (.d (.int k (k.wrap (a*b)))):=by simp[DN]
theorem gB:DN P t .quo (.d (.int k a)) (.d (.int k b))=if b=0 then none else some (.d (.int k (k.wrap (a.tdiv b)))):=by simp[DN]
theorem eW:DN P t .rem (.d (.int k a)) (.d (.int k b))=if b=0 then none else some (.d (.int k (a.tmod b))):=by simp[DN]
theorem lW:DN P t .and (.d (.int .i64 a)) (.d (.int .i64 b))=some (.d (.int .i64 (C0 a b))):=rfl
theorem mL:DN P t .or (.d (.int .i64 a)) (.d (.int .i64 b))=some (.d (.int .i64 (YI a b))):=rfl
theorem hY:DN P t .xor (.d (.int .i64 a)) (.d (.int .i64 b))=some (.d (.int .i64 (Bm a b))):=rfl
theorem VW:DN P t .andNot (.d (.int .i64 a)) (.d (.int .i64 b))=some (.d (.int .i64 (FQ a b))):=rfl
theorem Xc:DN P t .shl (.d (.int .i64 a)) (.d (.int k b))=if 0≤b then some (.d (.int .i64 (ET a b))) else none:=by simp[DN,ET,IntKind.bits]
theorem fI:DN P t .shr (.d (.int .i64 a)) (.d (.int k b))=if 0≤b then some (.d (.int .i64 (DB a b))) else none:=by simp[DN,DB,IntKind.bits]
theorem Ti:DN P t .shl (.d (.int .u64 a)) (.d (.int k b))=if 0≤b then some (.d (.int .u64 (IntKind.u64.wrap (a*2 ^ min b.toNat 64)))) else none:=by simp[DN,IntKind.bits]
theorem My:DN P t .eql (.d (.int k a)) (.d (.int k b))=some (.d (.bool (a==b))):=by simp[DN]
theorem nR {sl:List Ah} {op:BinOp} {x:V} {y:D}:GB P sl t op x (.d y)=DN P t op x (.d y):=rfl
theorem dR {sl:List Ah} {op:BinOp} {x:V} {ys:List V}:GB P sl t op x (.agg ys)=DN P t op x (.agg ys):=rfl
theorem kU {a c:Int} {b d:Bool} (h:WD P t=true):DN P t .eql (.agg [.d (.int .i64 a),.d (.bool b)]) (.agg [.d (.int .i64 c),.d (.bool d)])=some (.d (.bool (a==c&&b==d))):=by simp[DN,h]
theorem lC {a b c d:Int} (h:KN P t=true):DN P t .eql (.agg [.d (.int .i64 a),.d (.int .i64 b)]) (.agg [.d (.int .i64 c),.d (.int .i64 d)])=some (.d (.bool (a==c&&b==d))):=by simp[DN,h]
theorem lT:DN P t .neq (.d (.int k a)) (.d (.int k b))=some (.d (.bool (a != b))):=by simp[DN]
theorem gV:DN P t .lss (.d (.int k a)) (.d (.int k b))=some (.d (.bool (decide (a<b)))):=by simp[DN]
theorem Mq:DN P t .leq (.d (.int k a)) (.d (.int k b))=some (.d (.bool (decide (a≤b)))):=by simp[DN]
theorem lL:DN P t .gtr (.d (.int k a)) (.d (.int k b))=some (.d (.bool (decide (a > b)))):=by simp[DN]
theorem MQ:DN P t .geq (.d (.int k a)) (.d (.int k b))=some (.d (.bool (decide (a≥b)))):=by simp[DN]
theorem cC (h:P.underlying t=some .bool):DN P t .eql (.d (.bool x)) (.d (.bool y))=some (.d (.bool (x==y))):=by simp[DN,h]
theorem cS (h:P.underlying t=some .bool):DN P t .neq (.d (.bool x)) (.d (.bool y))=some (.d (.bool (!(x==y)))):=by simp[DN,h]
end
section
variable {P:Program} {m:Mode} {ops:Array Oper} {K:St→Prop} {rest:List Oper} {σ:St} {d:Option Tmp} {t e:TypeId} {dr:Bool}
theorem aF {sl:List Ah} {x y:V} {K:V→List Ah→Prop} {ow:Bool} {es es2:List (List D)} {ks:List Nat} {o:Option Nat} (he:BR P t=some e) (hb:Iu sl e x=some (ow,es,ks)) (hz:(Bn P e).isSome=true∧P.cellsOf e≠0∧P.bytesOf e≤128)
 (hs:Re sl y=some (es2,o)) (ho:∀ s,o=some s→s∉ks) (hc:∀ c∈es2,c.length=P.cellsOf e) (hl:es.length+es2.length≤1099511627776) (hf:ow=true→AR es2) (hK:K (.ref sl.length) (kill ks sl++[.arr e ow (es++es2)])):MY P sl t x y K :=
 ⟨e,ow,es,ks,he,hb,hz.1,hz.2.1,hz.2.2,.inl ⟨es2,o,hs,ho,hc,hl,hf,hK⟩⟩
theorem Ak {x y:V} {ow:Bool} {es es2:List (List D)} {ks:List Nat} {o:Option Nat} {n:Nat} {b:Bool} (he:BR P t=some e) (hb:Iu σ.slots e x=some (ow,es,ks)) (hz:(Bn P e).isSome=true∧P.cellsOf e≠0∧P.bytesOf e≤128)
 (hs:Re σ.slots y=some (es2,o)) (ho:∀ s,o=some s→s∉ks) (hc:∀ c∈es2,c.length=P.cellsOf e) (hl:es.length+es2.length≤1099511627776) (hf:ow=true→AR es2)
 (hK:Bj P ⟨n,false,b,dr⟩ ops K rest (St.put ⟨σ.tmps,kill ks σ.slots++[.arr e ow (es++es2)]⟩ d (.ref σ.slots.length))):gT P ⟨n,false,b,dr⟩ ops K rest σ d t x y :=
 .inl ⟨rfl,.inl (aF he hb hz hs ho hc hl hf hK)⟩
theorem Bt {x:V} {es:List (List D)} {ks:List Nat} {n:Nat} {b:Bool} {s2 q:Nat} {cells:List V} {ds:List D} {ks2:List Nat} (he:BR P t=some e) (hb:Iu σ.slots e x=some (true,es,ks)) (hz:(Bn P e).isSome=true∧P.cellsOf e≠0∧P.bytesOf e≤128)
 (hs:σ.slots[s2]? = some (.var e cells)) (ht:CS σ.slots cells=some (ds,ks2)) (hd:∀ k∈ks2,k∉ks) (hc:cells.length=q*P.cellsOf e) (hl:es.length+q≤1099511627776)
 (hK:Bj P ⟨n,false,b,dr⟩ ops K rest (St.put ⟨σ.tmps,kill (s2::(ks++ks2)) σ.slots++[.arr e true (es++Cs (P.cellsOf e) q ds)]⟩ d (.ref σ.slots.length))):gT P ⟨n,false,b,dr⟩ ops K rest σ d t x (.lit s2 q) :=
 .inl ⟨rfl,.inl ⟨e,true,es,ks,he,hb,hz.1,hz.2.1,hz.2.2,.inr (.inr (.inl ⟨s2,q,cells,ds,ks2,rfl,hs,ht,hd,hc,rfl,hl,hK⟩))⟩⟩
theorem Bu {x:V} {es es2:List (List D)} {ks:List Nat} {n:Nat} {b:Bool} {s2:Nat} (he:BR P t=some e) (hb:Iu σ.slots e x=some (true,es,ks)) (hz:(Bn P e).isSome=true∧P.cellsOf e≠0∧P.bytesOf e≤128)
 (hs:σ.slots[s2]? = some (.arr e true es2)) (hd:s2∉ks) (hl:es.length+es2.length≤1099511627776)
 (hK:Bj P ⟨n,false,b,dr⟩ ops K rest (St.put ⟨σ.tmps,kill (s2::ks) σ.slots++[.arr e true (es++es2)]⟩ d (.ref σ.slots.length))):gT P ⟨n,false,b,dr⟩ ops K rest σ d t x (.ref s2) :=
 .inl ⟨rfl,.inl ⟨e,true,es,ks,he,hb,hz.1,hz.2.1,hz.2.2,.inr (.inl ⟨s2,es2,rfl,hs,hd,rfl,hl,hK⟩)⟩⟩
theorem EB {x y:V} {ow:Bool} {es es2:List (List D)} {ks ks2:List Nat} {n:Nat} {b:Bool} {t':TypeId} (hfz:It P σ.slots y=some (.sl t' es2,ks2)) (he:BR P t=some e) (hb:Iu (kill ks2 σ.slots) e x=some (ow,es,ks)) (hz:(Bn P e).isSome=true∧P.cellsOf e≠0∧P.bytesOf e≤128)
 (hc:∀ c∈es2,c.length=P.cellsOf e) (hl:es.length+es2.length≤1099511627776)
 (hK:Bj P ⟨n,false,b,dr⟩ ops K rest (St.put ⟨σ.tmps,kill ks (kill ks2 σ.slots)++[.arr e false (es++es2)]⟩ d (.ref (kill ks2 σ.slots).length))):gT P ⟨n,false,b,dr⟩ ops K rest σ d t x y :=
 .inl ⟨rfl,.inr ⟨_,ks2,hfz,e,ow,es,ks,he,hb,hz.1,hz.2.1,hz.2.2,.inr (.inr (.inr ⟨es2,none,rfl,by simp,hc,hl,hK⟩))⟩⟩
end
inductive UZ:D→Prop
 | int (k:IntKind) (x:Int) (h:(Lit.int k x).wf=true):UZ (.int k x)
 | bool (b:Bool):UZ (.bool b)
 | sl (t:TypeId) (es:List (List D)) (h:∀ e∈es,∀ d∈e,UZ d):UZ (.sl t es)
theorem UZ.i64 {x:Int} (h:UZ (.int .i64 x)):-9223372036854775808≤x∧x≤9223372036854775807:=by
 cases h with
 | int _ _ h =>
   have h2:(decide (IntKind.i64.min≤x)&&decide (x≤IntKind.i64.max))=true:=h;have a:IntKind.i64.min=-9223372036854775808:=by decide
   have b:IntKind.i64.max=9223372036854775807:=by decide
   rw[a,b] at h2;simpa using h2
def tP {α:Type} (P:Program) (en:α→D) (t:TypeId):Prop :=
 ∀ {H:Type} {enc:TypeId×Value→H} {W:World} {B fuel:Nat} {cs:List Value} {x:DataW H×List MemPlace},
   DataW.trod enc P W 0 (fun _=>true) true fuel t cs=some x→(∀ p∈x.2,p.block<B)→∃ (d:α) (v:Value),cs=[v]∧Rd W (·<B) (en d) v∧UZ (en d)
def OpE {α:Type} (P:Program) (en:α→List D) (t:TypeId):Prop :=
 ∀ {H:Type} {enc:TypeId×Value→H} {W:World} {B fuel:Nat} {cs:List Value} {x:DataW H×List MemPlace},
   DataW.trod enc P W 0 (fun _=>true) true fuel t cs=some x→(∀ p∈x.2,p.block<B)→∃ d:α,Rds W (·<B) (en d) cs []∧∀ q∈en d,UZ q
def AC (x:Int):D:=.int .i64 x
def CZ (x:Bool):D:=.bool x
def Dt {α:Type} (e:TypeId) (en:α→List D) (xs:List α):D:=.sl e (xs.map en)
def e1 {α:Type} (en:α→D) (x:α):List D:=[en x]
def e2 {α β:Type} (a:α→D) (b:β→D) (x:α×β):List D:=[a x.1,b x.2]
def e3 {α β γ:Type} (a:α→D) (b:β→D) (c:γ→D) (x:α×β×γ):List D:=[a x.1,b x.2.1,c x.2.2]
def e4 {α β γ δ:Type} (a:α→D) (b:β→D) (c:γ→D) (d:δ→D) (x:α×β×γ×δ):List D:=[a x.1,b x.2.1,c x.2.2.1,d x.2.2.2]
section
variable {P:Program} {t:TypeId}
theorem xS {α:Type} {en:α→D} (h:tP P en t):OpE P (e1 en) t:=fun h1 h2=>by
 obtain⟨d,v,rfl,hr,ho⟩:=h h1 h2;refine⟨d,⟨rfl,rfl,fun i x hx=>?_⟩,by simpa [e1] using ho⟩
 match i with
 | 0=>simp[e1] at hx;subst hx;exact⟨v,rfl,hr⟩
 | i+1=>simp[e1] at hx
theorem X1 {w:World} {a:Addr} {u:Value} (h:w.cell? a=some u):a.spot=none:=by
 unfold World.cell? at h;split at h
 · split at h
   · cases h
   · rename_i hs
     cases hp:a.spot with
     | none=>rfl
     | some q=>rw[hp] at hs;simp at hs
 · cases h
theorem pV {α:Type} {en:α→List D} {e:TypeId} (ht:P.underlying t=some (.slice e)) (hpos:0<P.cellsOf e) (hE:∀ x,(en x).length=P.cellsOf e) (hT:OpE P en e):tP P (Dt e en) t:=by
 intro H enc W B fuel cs x h hlt;rcases open_slice ht h with ⟨rfl,rfl⟩|⟨a,len,cap,m,n,D,Pl,rfl,hb,hl,hm,hmm,hx,hi⟩
 · exact⟨[],_,rfl,.nil _ _ _,.sl _ _ (by simp)⟩
 · have hm':m=cap:=hmm;subst hm';have hlen63:len≤9223372036854775807:=by simp only[maxLen] at hm;omega
   have hpl:∀ i,i<m→∀ p∈Pl i,p.block<B:=by
    intro i him p hp;refine hlt p ?_;rw[hx];simp only[CO,List.mem_flatMap,Gu];exact .inr ⟨i,him,hp⟩
   have helem:∀ i,i<len→∃ y:α×List Value,W.cells? 0 (a.add (i*P.cellsOf e)) (P.cellsOf e)=some y.2∧Rds W (·<B) (en y.1) y.2 []∧∀ q∈en y.1,UZ q:=by
    intro i hil;obtain⟨cs',hc,ht'⟩:=hi i (by omega);obtain⟨d,hd⟩:=hT ht' (fun p hp=>hpl i (by omega) p hp);exact⟨(d,cs'),hc,hd⟩
   by_cases h0:len=0
   · subst h0;exact⟨[],_,rfl,.nil _ _ _,.sl _ _ (by simp)⟩
   have hn':0<len:=by omega
   obtain⟨y0,hy0⟩:=helem 0 hn'
   have hall:∀ i,∃ y:α×List Value,i<len→W.cells? 0 (a.add (i*P.cellsOf e)) (P.cellsOf e)=some y.2∧Rds W (·<B) (en y.1) y.2 []∧∀ q∈en y.1,UZ q:=by
    intro i;by_cases hil:i<len
    · obtain⟨y,hy⟩:=helem i hil;exact⟨y,fun _=>hy⟩
    · exact⟨y0,fun h=>absurd h hil⟩
   obtain⟨f,hf⟩:=Classical.skolem.1 hall
   have hblk:a.block<B:=by
    have:MemPlace.cell a.block a.off∈x.2:=by
     rw[hx];simp only[CO];left;rw[MemPlace.row];simp only[CF,Gu];exact⟨0,Nat.mul_pos (by omega) hpos,by simp⟩
    exact hlt _ this
   have hspot:a.spot=none:=by
    obtain⟨_,hcl,hat⟩:=World.cells?_some hy0.1;have h0:=hat 0 hpos;have hcl':0<y0.2.length:=by rw[hcl];exact hpos
    rw[A1 hcl'] at h0;have:=X1 h0;simpa [Addr.add] using this
   obtain⟨b,o,sp⟩:=a;simp only at hspot;subst hspot
   have hr:=Rd.sl (w:=W) (G:=(·<B)) e ((List.range len).map fun i=>en (f i).1) b o m (P.cellsOf e) (fun i j=>((f i).2[j]?).getD (.bool false)) (by simpa using hlen63) (by simpa using hl) hblk
    (fun x hx=>by simp only[CF,Gu] at hx;obtain⟨i,_,rfl⟩:=hx;exact hE _)
    (fun i y j d hy hd=>by
      rw[Di,Option.map_eq_some_iff] at hy;obtain⟨i',hi',rfl⟩:=hy
      have hil:i<len:=by
       have:=(BZ.1 hi').1;simpa using this
      rw[XQ hil] at hi';obtain rfl:=Da hi';obtain⟨h1,h2,h3⟩:=hf i hil;obtain⟨_,hcl,hat⟩:=World.cells?_some h1;have hj:j<P.cellsOf e:=by rw[←hE (f i).1];exact (BZ.1 hd).1
      have:=hat j hj;have hj2:j<(f i).2.length:=by rw[hcl];exact hj
      rw[A1 hj2] at this ⊢
      have ee:((⟨b,o,none⟩:Addr).add (i*P.cellsOf e)).add j=⟨b,o+i*P.cellsOf e+j,none⟩:=by
       rw[Go.Deep.add_add];unfold Addr.add;split
       · rename_i h0;rw[Nat.add_assoc,h0,Nat.add_zero]
       · rw[Nat.add_assoc]
      rw[ee] at this
      simpa using this)
    (fun i y j d hy hd=>by
      rw[Di,Option.map_eq_some_iff] at hy;obtain⟨i',hi',rfl⟩:=hy
      have hil:i<len:=by
       have:=(BZ.1 hi').1;simpa using this
      rw[XQ hil] at hi';obtain rfl:=Da hi';obtain⟨h1,h2,h3⟩:=hf i hil;obtain⟨v,hv,hr⟩:=h2.2.2 j d hd;rw[hv]
      exact hr)
   refine⟨(List.range len).map fun i=>(f i).1,_,rfl,?_⟩;have el:((List.range len).map fun i=>en (f i).1).length=len:=by simp
   rw[el] at hr;have em:Dt e en ((List.range len).map fun i=>(f i).1)=.sl e ((List.range len).map fun i=>en (f i).1):=by simp[Dt,Function.comp_def]
   rw[em];refine⟨hr,.sl _ _ fun e he q hq=>?_⟩;simp only[CF,Gu] at he;obtain⟨i,hi,rfl⟩:=he;exact (hf i hi).2.2 q hq
section
variable {α:Type} {H:Type} {enc:TypeId×Value→H} {W:World} {base:Nat} {v:Value} {d:DataW H} {p:List MemPlace}
theorem lN {en:α→D} {e:TypeId} (ht:P.underlying t=some (.slice e)) (hO:tP P en t) (hv:Value.okWide P W .any base t v) (h:DataW.Trod enc P W 0 (fun _=>true) true t v d p) (hlt:∀ x∈p,x.block<W.heap.size):∃ x:α,Rd W (·<W.heap.size) (en x) v∧UZ (en x):=by
 obtain⟨a0,len,cap,rfl⟩:=okWide_slice ht hv;obtain⟨fuel,hf⟩:=h;obtain⟨x,v,e1,h2⟩:=hO hf hlt;have e1':[Value.slice a0 len cap]=[v]:=e1
 cases e1'
 exact⟨x,h2⟩
theorem eY {en:α→D} {e:TypeId} (ht:P.underlying t=some (.slice e)) (hO:tP P en t) (hv:Value.okWide P W .any base t v) (h:DataW.Trod enc P W 0 (fun _=>true) true t v d p) (hlt:∀ x∈p,x.block<W.heap.size):∃ x:α,Rd W (·<W.heap.size) (en x) v:=by
 obtain⟨x,h,_⟩:=lN ht hO hv h hlt;exact⟨x,h⟩
end
theorem nQ {f:FuncId} {xs:List X} (h:BA P f xs (.d (.bool true))) {w:World} {vs:Array Value} (hl:vs.size=xs.length) (hr:∀ (i:Nat) (x:X) (v:Value),xs[i]? = some x→vs[i]? = some v→mI w (·<w.heap.size) x v) :
 Calls P f vs w fun e w'=>e=.returned (.bool true)∧Below w.heap.size w w':=by
 refine (h.2 w vs.toList (by simpa using hl) (fun i x v hx hv=>hr i x v hx (by simpa using hv))).mono ?_;rintro e w' ⟨v,F,rfl,hres,-,-,hb⟩;refine⟨?_,hb⟩
 cases hres with
 | one hx=>cases hx with
   | d ho =>
     obtain⟨v',hv',hr'⟩:=ho.rd (G:=fun _=>True) (fun _ _=>trivial) 0 _ rfl;simp at hv';subst hv'
     cases hr'
     rfl
end
end Go.Proofs.YtnjedabjbeipeaaGreat
