/-
  Facts on the program's types, for abstract walks.
  Conditions: none.
-/
import Derived.Test.YtnjedabjbeipeaaV4
namespace Go.Proofs.Ytnjedabjbeipeaa
open Go.RowKit Go.ChangeShapes Go.WideShapes Go.ChangeAt Go.Deep Go.Joins
set_option linter.unusedSimpArgs false
set_option linter.unusedVariables false
set_option maxRecDepth 100000
set_option maxHeartbeats 10000000
@[simp] theorem ABI:(Try.prog.underlying 2).isSome=true:=by kernel_rfl
@[simp] theorem AA6:CR Try.prog 2=false:=by kernel_rfl
@[simp] theorem ABW:Try.prog.cellsOf 2=1:=by kernel_rfl
@[simp] theorem ABC:Try.prog.bytesOf 2=8:=by kernel_rfl
@[simp] theorem ABq:A6 Try.prog 2=some [.d (.int .i64 0)]:=by kernel_rfl
@[simp] theorem ABa:Try.prog.underlying 2=some (.int .i64):=by kernel_rfl
@[simp] theorem ABA:(Try.prog.underlying 3).isSome=true:=by kernel_rfl
@[simp] theorem ABS:CR Try.prog 3=false:=by kernel_rfl
@[simp] theorem ABG:Try.prog.cellsOf 3=1:=by kernel_rfl
@[simp] theorem ABp:Try.prog.bytesOf 3=8:=by kernel_rfl
@[simp] theorem ABi:A6 Try.prog 3=some [.d (.int .i64 0)]:=by kernel_rfl
@[simp] theorem ABV:Try.prog.underlying 3=some (.int .i64):=by kernel_rfl
@[simp] theorem ABJ:(Try.prog.underlying 4).isSome=true:=by kernel_rfl
@[simp] theorem ABQ:CR Try.prog 4=false:=by kernel_rfl
@[simp] theorem ABM:Try.prog.cellsOf 4=1:=by kernel_rfl
@[simp] theorem ABE:Try.prog.bytesOf 4=1:=by kernel_rfl
@[simp] theorem ABD:A6 Try.prog 4=some [.d (.bool false)]:=by kernel_rfl
@[simp] theorem ABl:Try.prog.underlying 4=some .bool:=by kernel_rfl
@[simp] theorem ABT:(Try.prog.underlying 5).isSome=true:=by kernel_rfl
@[simp] theorem AA7:CR Try.prog 5=false:=by kernel_rfl
@[simp] theorem ABL:Try.prog.cellsOf 5=1:=by kernel_rfl
@[simp] theorem AA9:Try.prog.bytesOf 5=1:=by kernel_rfl
@[simp] theorem ABc:A6 Try.prog 5=some [.d (.int .u8 0)]:=by kernel_rfl
@[simp] theorem ABK:Try.prog.underlying 5=some (.int .u8):=by kernel_rfl
@[simp] theorem ABd:(Try.prog.underlying 6).isSome=true:=by kernel_rfl
@[simp] theorem ABf:CR Try.prog 6=false:=by kernel_rfl
@[simp] theorem ABF:Try.prog.cellsOf 6=1:=by kernel_rfl
@[simp] theorem ABX:Try.prog.bytesOf 6=1:=by kernel_rfl
@[simp] theorem ABn:A6 Try.prog 6=some [.d (.int .u8 0)]:=by kernel_rfl
@[simp] theorem ABP:Try.prog.underlying 6=some (.int .u8):=by kernel_rfl
@[simp] theorem ABm:(Try.prog.underlying 7).isSome=true:=by kernel_rfl
@[simp] theorem ABY:CR Try.prog 7=true:=by kernel_rfl
@[simp] theorem ABR:Try.prog.cellsOf 7=4:=by kernel_rfl
@[simp] theorem ABg:Try.prog.bytesOf 7=24:=by kernel_rfl
@[simp] theorem AAR:AC Try.prog 7 0=some (0,2):=by kernel_rfl
@[simp] theorem yG:AC Try.prog 7 1=some (1,3):=by kernel_rfl
@[simp] theorem yM:AC Try.prog 7 2=some (2,4):=by kernel_rfl
@[simp] theorem yN:AC Try.prog 7 3=some (3,6):=by kernel_rfl
@[simp] theorem ABh:A6 Try.prog 7=some [.d (.int .i64 0),.d (.int .i64 0),.d (.bool false),.d (.int .u8 0)]:=by kernel_rfl
@[simp] theorem ABO:(Try.prog.underlying 8).isSome=true:=by kernel_rfl
@[simp] theorem ABH:CR Try.prog 8=true:=by kernel_rfl
@[simp] theorem ABB:Try.prog.cellsOf 8=4:=by kernel_rfl
@[simp] theorem ABk:Try.prog.bytesOf 8=24:=by kernel_rfl
@[simp] theorem AAB:AC Try.prog 8 0=some (0,2):=by kernel_rfl
@[simp] theorem AAo:AC Try.prog 8 1=some (1,3):=by kernel_rfl
@[simp] theorem xR:AC Try.prog 8 2=some (2,4):=by kernel_rfl
@[simp] theorem xS:AC Try.prog 8 3=some (3,6):=by kernel_rfl
@[simp] theorem ABN:A6 Try.prog 8=some [.d (.int .i64 0),.d (.int .i64 0),.d (.bool false),.d (.int .u8 0)]:=by kernel_rfl
@[simp] theorem AAM:(Try.prog.underlying 12).isSome=true:=by kernel_rfl
@[simp] theorem yH:CR Try.prog 12=false:=by kernel_rfl
@[simp] theorem xK:Try.prog.cellsOf 12=1:=by kernel_rfl
@[simp] theorem vW:Try.prog.bytesOf 12=8:=by kernel_rfl
@[simp] theorem AAd:A6 Try.prog 12=some [.d (.int .u64 0)]:=by kernel_rfl
@[simp] theorem AAS:Try.prog.underlying 12=some (.int .u64):=by kernel_rfl
@[simp] theorem wJ:(Try.prog.underlying 21).isSome=true:=by kernel_rfl
@[simp] theorem AAe:CR Try.prog 21=false:=by kernel_rfl
@[simp] theorem vZ:Try.prog.cellsOf 21=1:=by kernel_rfl
@[simp] theorem AAv:Try.prog.bytesOf 21=4:=by kernel_rfl
@[simp] theorem xA:A6 Try.prog 21=some [.d (.int .i32 0)]:=by kernel_rfl
@[simp] theorem wM:Try.prog.underlying 21=some (.int .i32):=by kernel_rfl
@[simp] theorem vP:(Try.prog.underlying 22).isSome=true:=by kernel_rfl
@[simp] theorem AAQ:CR Try.prog 22=false:=by kernel_rfl
@[simp] theorem zD:Try.prog.cellsOf 22=1:=by kernel_rfl
@[simp] theorem xI:Try.prog.bytesOf 22=24:=by kernel_rfl
@[simp] theorem AAl:Bt Try.prog 22=some 5:=by kernel_rfl
@[simp] theorem AAG:A6 Try.prog 22=some [.nil 5]:=by kernel_rfl
@[simp] theorem AA2:(Try.prog.underlying 24).isSome=true:=by kernel_rfl
@[simp] theorem AA4:CR Try.prog 24=false:=by kernel_rfl
@[simp] theorem AAE:Try.prog.cellsOf 24=1:=by kernel_rfl
@[simp] theorem wW:Try.prog.bytesOf 24=24:=by kernel_rfl
@[simp] theorem Ct:Bt Try.prog 24=some 31:=by kernel_rfl
@[simp] theorem AA0:A6 Try.prog 24=some [.nil 31]:=by kernel_rfl
@[simp] theorem AAk:(Try.prog.underlying 25).isSome=true:=by kernel_rfl
@[simp] theorem zL:CR Try.prog 25=false:=by kernel_rfl
@[simp] theorem zU:Try.prog.cellsOf 25=1:=by kernel_rfl
@[simp] theorem AAC:Try.prog.bytesOf 25=24:=by kernel_rfl
@[simp] theorem HI:Bt Try.prog 25=some 60:=by kernel_rfl
@[simp] theorem xT:A6 Try.prog 25=some [.nil 60]:=by kernel_rfl
@[simp] theorem AAt:(Try.prog.underlying 26).isSome=true:=by kernel_rfl
@[simp] theorem wK:CR Try.prog 26=false:=by kernel_rfl
@[simp] theorem AAx:Try.prog.cellsOf 26=1:=by kernel_rfl
@[simp] theorem wQ:Try.prog.bytesOf 26=24:=by kernel_rfl
@[simp] theorem AX:Bt Try.prog 26=some 3:=by kernel_rfl
@[simp] theorem wN:A6 Try.prog 26=some [.nil 3]:=by kernel_rfl
@[simp] theorem AAW:(Try.prog.underlying 27).isSome=true:=by kernel_rfl
@[simp] theorem xG:CR Try.prog 27=true:=by kernel_rfl
@[simp] theorem zM:Try.prog.cellsOf 27=4:=by kernel_rfl
@[simp] theorem xN:Try.prog.bytesOf 27=80:=by kernel_rfl
@[simp] theorem tE:AC Try.prog 27 0=some (0,3):=by kernel_rfl
@[simp] theorem qU:AC Try.prog 27 1=some (1,24):=by kernel_rfl
@[simp] theorem tN:AC Try.prog 27 2=some (2,25):=by kernel_rfl
@[simp] theorem sG:AC Try.prog 27 3=some (3,26):=by kernel_rfl
@[simp] theorem yR:A6 Try.prog 27=some [.d (.int .i64 0),.nil 31,.nil 60,.nil 3]:=by kernel_rfl
@[simp] theorem AAf:(Try.prog.underlying 28).isSome=true:=by kernel_rfl
@[simp] theorem AAb:CR Try.prog 28=true:=by kernel_rfl
@[simp] theorem yV:Try.prog.cellsOf 28=4:=by kernel_rfl
@[simp] theorem yQ:Try.prog.bytesOf 28=80:=by kernel_rfl
@[simp] theorem rM:AC Try.prog 28 0=some (0,3):=by kernel_rfl
@[simp] theorem sL:AC Try.prog 28 1=some (1,24):=by kernel_rfl
@[simp] theorem qP:AC Try.prog 28 2=some (2,25):=by kernel_rfl
@[simp] theorem uH:AC Try.prog 28 3=some (3,26):=by kernel_rfl
@[simp] theorem vC:A6 Try.prog 28=some [.d (.int .i64 0),.nil 31,.nil 60,.nil 3]:=by kernel_rfl
@[simp] theorem AAZ:(Try.prog.underlying 30).isSome=true:=by kernel_rfl
@[simp] theorem yC:CR Try.prog 30=true:=by kernel_rfl
@[simp] theorem wD:Try.prog.cellsOf 30=3:=by kernel_rfl
@[simp] theorem yU:Try.prog.bytesOf 30=40:=by kernel_rfl
@[simp] theorem sT:AC Try.prog 30 0=some (0,3):=by kernel_rfl
@[simp] theorem sM:AC Try.prog 30 1=some (1,3):=by kernel_rfl
@[simp] theorem sY:AC Try.prog 30 2=some (2,26):=by kernel_rfl
@[simp] theorem AAN:A6 Try.prog 30=some [.d (.int .i64 0),.d (.int .i64 0),.nil 3]:=by kernel_rfl
@[simp] theorem xQ:(Try.prog.underlying 31).isSome=true:=by kernel_rfl
@[simp] theorem vY:CR Try.prog 31=true:=by kernel_rfl
@[simp] theorem AAy:Try.prog.cellsOf 31=3:=by kernel_rfl
@[simp] theorem AAr:Try.prog.bytesOf 31=40:=by kernel_rfl
@[simp] theorem uG:AC Try.prog 31 0=some (0,3):=by kernel_rfl
@[simp] theorem uP:AC Try.prog 31 1=some (1,3):=by kernel_rfl
@[simp] theorem qO:AC Try.prog 31 2=some (2,26):=by kernel_rfl
@[simp] theorem wP:A6 Try.prog 31=some [.d (.int .i64 0),.d (.int .i64 0),.nil 3]:=by kernel_rfl
@[simp] theorem wC:(Try.prog.underlying 34).isSome=true:=by kernel_rfl
@[simp] theorem wS:CR Try.prog 34=false:=by kernel_rfl
@[simp] theorem AAi:Try.prog.cellsOf 34=1:=by kernel_rfl
@[simp] theorem AAI:Try.prog.bytesOf 34=24:=by kernel_rfl
@[simp] theorem wF:Bt Try.prog 34=some 44:=by kernel_rfl
@[simp] theorem xE:A6 Try.prog 34=some [.nil 44]:=by kernel_rfl
@[simp] theorem AAP:(Try.prog.underlying 43).isSome=true:=by kernel_rfl
@[simp] theorem xZ:CR Try.prog 43=true:=by kernel_rfl
@[simp] theorem AAO:Try.prog.cellsOf 43=2:=by kernel_rfl
@[simp] theorem yA:Try.prog.bytesOf 43=32:=by kernel_rfl
@[simp] theorem tM:AC Try.prog 43 0=some (0,26):=by kernel_rfl
@[simp] theorem uN:AC Try.prog 43 1=some (1,3):=by kernel_rfl
@[simp] theorem yZ:A6 Try.prog 43=some [.nil 3,.d (.int .i64 0)]:=by kernel_rfl
@[simp] theorem yB:(Try.prog.underlying 44).isSome=true:=by kernel_rfl
@[simp] theorem vE:CR Try.prog 44=true:=by kernel_rfl
@[simp] theorem zR:Try.prog.cellsOf 44=2:=by kernel_rfl
@[simp] theorem AAj:Try.prog.bytesOf 44=32:=by kernel_rfl
@[simp] theorem sQ:AC Try.prog 44 0=some (0,26):=by kernel_rfl
@[simp] theorem tX:AC Try.prog 44 1=some (1,3):=by kernel_rfl
@[simp] theorem AAc:A6 Try.prog 44=some [.nil 3,.d (.int .i64 0)]:=by kernel_rfl
@[simp] theorem wH:(Try.prog.underlying 51).isSome=true:=by kernel_rfl
@[simp] theorem AAm:CR Try.prog 51=false:=by kernel_rfl
@[simp] theorem xH:Try.prog.cellsOf 51=1:=by kernel_rfl
@[simp] theorem wX:Try.prog.bytesOf 51=24:=by kernel_rfl
@[simp] theorem vK:Bt Try.prog 51=some 28:=by kernel_rfl
@[simp] theorem wU:A6 Try.prog 51=some [.nil 28]:=by kernel_rfl
@[simp] theorem wB:(Try.prog.underlying 52).isSome=true:=by kernel_rfl
@[simp] theorem wZ:CR Try.prog 52=false:=by kernel_rfl
@[simp] theorem vS:Try.prog.cellsOf 52=1:=by kernel_rfl
@[simp] theorem zN:Try.prog.bytesOf 52=24:=by kernel_rfl
@[simp] theorem AK:Bt Try.prog 52=some 26:=by kernel_rfl
@[simp] theorem xO:A6 Try.prog 52=some [.nil 26]:=by kernel_rfl
@[simp] theorem zX:(Try.prog.underlying 59).isSome=true:=by kernel_rfl
@[simp] theorem xC:CR Try.prog 59=true:=by kernel_rfl
@[simp] theorem xP:Try.prog.cellsOf 59=2:=by kernel_rfl
@[simp] theorem yS:Try.prog.bytesOf 59=16:=by kernel_rfl
@[simp] theorem rW:AC Try.prog 59 0=some (0,3):=by kernel_rfl
@[simp] theorem tH:AC Try.prog 59 1=some (1,3):=by kernel_rfl
@[simp] theorem AAL:A6 Try.prog 59=some [.d (.int .i64 0),.d (.int .i64 0)]:=by kernel_rfl
@[simp] theorem xJ:GQ Try.prog 59=true:=by kernel_rfl
@[simp] theorem vX:(Try.prog.underlying 60).isSome=true:=by kernel_rfl
@[simp] theorem AAz:CR Try.prog 60=true:=by kernel_rfl
@[simp] theorem yJ:Try.prog.cellsOf 60=2:=by kernel_rfl
@[simp] theorem AAD:Try.prog.bytesOf 60=16:=by kernel_rfl
@[simp] theorem sK:AC Try.prog 60 0=some (0,3):=by kernel_rfl
@[simp] theorem qR:AC Try.prog 60 1=some (1,3):=by kernel_rfl
@[simp] theorem AAX:A6 Try.prog 60=some [.d (.int .i64 0),.d (.int .i64 0)]:=by kernel_rfl
@[simp] theorem zP:GQ Try.prog 60=true:=by kernel_rfl
@[simp] theorem vQ:(Try.prog.underlying 61).isSome=true:=by kernel_rfl
@[simp] theorem yD:CR Try.prog 61=true:=by kernel_rfl
@[simp] theorem yX:Try.prog.cellsOf 61=2:=by kernel_rfl
@[simp] theorem vM:Try.prog.bytesOf 61=16:=by kernel_rfl
@[simp] theorem qW:AC Try.prog 61 0=some (0,3):=by kernel_rfl
@[simp] theorem rX:AC Try.prog 61 1=some (1,3):=by kernel_rfl
@[simp] theorem AA1:A6 Try.prog 61=some [.d (.int .i64 0),.d (.int .i64 0)]:=by kernel_rfl
@[simp] theorem xV:GQ Try.prog 61=true:=by kernel_rfl
@[simp] theorem xB:(Try.prog.underlying 62).isSome=true:=by kernel_rfl
@[simp] theorem AAs:CR Try.prog 62=true:=by kernel_rfl
@[simp] theorem AAA:Try.prog.cellsOf 62=2:=by kernel_rfl
@[simp] theorem AAF:Try.prog.bytesOf 62=16:=by kernel_rfl
@[simp] theorem tJ:AC Try.prog 62 0=some (0,3):=by kernel_rfl
@[simp] theorem rF:AC Try.prog 62 1=some (1,3):=by kernel_rfl
@[simp] theorem yY:A6 Try.prog 62=some [.d (.int .i64 0),.d (.int .i64 0)]:=by kernel_rfl
@[simp] theorem yW:GQ Try.prog 62=true:=by kernel_rfl
@[simp] theorem uW:(Try.prog.underlying 64).isSome=true:=by kernel_rfl
@[simp] theorem zY:CR Try.prog 64=false:=by kernel_rfl
@[simp] theorem AAw:Try.prog.cellsOf 64=1:=by kernel_rfl
@[simp] theorem AAg:Try.prog.bytesOf 64=8:=by kernel_rfl
@[simp] theorem vD:A6 Try.prog 64=some [.d (.int .u64 0)]:=by kernel_rfl
@[simp] theorem AAp:Try.prog.underlying 64=some (.int .u64):=by kernel_rfl
@[simp] theorem zQ:(Try.prog.underlying 78).isSome=true:=by kernel_rfl
@[simp] theorem vH:CR Try.prog 78=false:=by kernel_rfl
@[simp] theorem zC:Try.prog.cellsOf 78=1:=by kernel_rfl
@[simp] theorem AAU:Try.prog.bytesOf 78=24:=by kernel_rfl
@[simp] theorem Vv:Bt Try.prog 78=some 4:=by kernel_rfl
@[simp] theorem zT:A6 Try.prog 78=some [.nil 4]:=by kernel_rfl
@[simp] theorem yL:(Try.prog.underlying 82).isSome=true:=by kernel_rfl
@[simp] theorem wA:CR Try.prog 82=true:=by kernel_rfl
@[simp] theorem AA3:Try.prog.cellsOf 82=5:=by kernel_rfl
@[simp] theorem AAH:Try.prog.bytesOf 82=104:=by kernel_rfl
@[simp] theorem qZ:AC Try.prog 82 0=some (0,28):=by kernel_rfl
@[simp] theorem tA:AC Try.prog 82 1=some (4,26):=by kernel_rfl
@[simp] theorem uV:A6 Try.prog 82=some [.d (.int .i64 0),.nil 31,.nil 60,.nil 3,.nil 3]:=by kernel_rfl
@[simp] theorem yF:(Try.prog.underlying 83).isSome=true:=by kernel_rfl
@[simp] theorem AAn:CR Try.prog 83=true:=by kernel_rfl
@[simp] theorem zO:Try.prog.cellsOf 83=5:=by kernel_rfl
@[simp] theorem AAK:Try.prog.bytesOf 83=104:=by kernel_rfl
@[simp] theorem rT:AC Try.prog 83 0=some (0,28):=by kernel_rfl
@[simp] theorem sX:AC Try.prog 83 1=some (4,26):=by kernel_rfl
@[simp] theorem vR:A6 Try.prog 83=some [.d (.int .i64 0),.nil 31,.nil 60,.nil 3,.nil 3]:=by kernel_rfl
@[simp] theorem AAa:(Try.prog.underlying 90).isSome=true:=by kernel_rfl
@[simp] theorem zA:CR Try.prog 90=false:=by kernel_rfl
@[simp] theorem vL:Try.prog.cellsOf 90=1:=by kernel_rfl
@[simp] theorem AAq:Try.prog.bytesOf 90=24:=by kernel_rfl
@[simp] theorem wE:Bt Try.prog 90=some 52:=by kernel_rfl
@[simp] theorem xY:A6 Try.prog 90=some [.nil 52]:=by kernel_rfl
@[simp] theorem xL:(Try.prog.underlying 95).isSome=true:=by kernel_rfl
@[simp] theorem yI:CR Try.prog 95=true:=by kernel_rfl
@[simp] theorem wY:Try.prog.cellsOf 95=2:=by kernel_rfl
@[simp] theorem yK:Try.prog.bytesOf 95=32:=by kernel_rfl
@[simp] theorem uO:AC Try.prog 95 0=some (0,3):=by kernel_rfl
@[simp] theorem uJ:AC Try.prog 95 1=some (1,52):=by kernel_rfl
@[simp] theorem wG:A6 Try.prog 95=some [.d (.int .i64 0),.nil 26]:=by kernel_rfl
@[simp] theorem uX:(Try.prog.underlying 96).isSome=true:=by kernel_rfl
@[simp] theorem vT:CR Try.prog 96=true:=by kernel_rfl
@[simp] theorem xM:Try.prog.cellsOf 96=2:=by kernel_rfl
@[simp] theorem zK:Try.prog.bytesOf 96=32:=by kernel_rfl
@[simp] theorem sV:AC Try.prog 96 0=some (0,3):=by kernel_rfl
@[simp] theorem rD:AC Try.prog 96 1=some (1,52):=by kernel_rfl
@[simp] theorem wV:A6 Try.prog 96=some [.d (.int .i64 0),.nil 26]:=by kernel_rfl
@[simp] theorem sR:(Try.prog.underlying 104).isSome=true:=by kernel_rfl
@[simp] theorem rN:CR Try.prog 104=true:=by kernel_rfl
@[simp] theorem rQ:Try.prog.cellsOf 104=3:=by kernel_rfl
@[simp] theorem rU:Try.prog.bytesOf 104=40:=by kernel_rfl
@[simp] theorem pE:AC Try.prog 104 0=some (0,22):=by kernel_rfl
@[simp] theorem pT:AC Try.prog 104 1=some (1,3):=by kernel_rfl
@[simp] theorem qD:AC Try.prog 104 2=some (2,3):=by kernel_rfl
@[simp] theorem tY:A6 Try.prog 104=some [.nil 5,.d (.int .i64 0),.d (.int .i64 0)]:=by kernel_rfl
@[simp] theorem tL:(Try.prog.underlying 105).isSome=true:=by kernel_rfl
@[simp] theorem sH:CR Try.prog 105=true:=by kernel_rfl
@[simp] theorem uE:Try.prog.cellsOf 105=3:=by kernel_rfl
@[simp] theorem tW:Try.prog.bytesOf 105=40:=by kernel_rfl
@[simp] theorem pQ:AC Try.prog 105 0=some (0,22):=by kernel_rfl
@[simp] theorem qJ:AC Try.prog 105 1=some (1,3):=by kernel_rfl
@[simp] theorem qN:AC Try.prog 105 2=some (2,3):=by kernel_rfl
@[simp] theorem sU:A6 Try.prog 105=some [.nil 5,.d (.int .i64 0),.d (.int .i64 0)]:=by kernel_rfl
@[simp] theorem rI:(Try.prog.underlying 118).isSome=true:=by kernel_rfl
@[simp] theorem tZ:CR Try.prog 118=false:=by kernel_rfl
@[simp] theorem sW:Try.prog.cellsOf 118=1:=by kernel_rfl
@[simp] theorem qS:Try.prog.bytesOf 118=24:=by kernel_rfl
@[simp] theorem Fo:Bt Try.prog 118=some 138:=by kernel_rfl
@[simp] theorem rE:A6 Try.prog 118=some [.nil 138]:=by kernel_rfl
@[simp] theorem tS:(Try.prog.underlying 126).isSome=true:=by kernel_rfl
@[simp] theorem rO:CR Try.prog 126=true:=by kernel_rfl
@[simp] theorem rJ:Try.prog.cellsOf 126=6:=by kernel_rfl
@[simp] theorem rP:Try.prog.bytesOf 126=96:=by kernel_rfl
@[simp] theorem pJ:AC Try.prog 126 0=some (0,96):=by kernel_rfl
@[simp] theorem pZ:AC Try.prog 126 1=some (2,3):=by kernel_rfl
@[simp] theorem qB:AC Try.prog 126 2=some (3,3):=by kernel_rfl
@[simp] theorem pR:AC Try.prog 126 3=some (4,52):=by kernel_rfl
@[simp] theorem pH:AC Try.prog 126 4=some (5,26):=by kernel_rfl
@[simp] theorem uM:A6 Try.prog 126=some [.d (.int .i64 0),.nil 26,.d (.int .i64 0),.d (.int .i64 0),.nil 26,.nil 3]:=by kernel_rfl
@[simp] theorem tV:(Try.prog.underlying 127).isSome=true:=by kernel_rfl
@[simp] theorem tU:CR Try.prog 127=true:=by kernel_rfl
@[simp] theorem rR:Try.prog.cellsOf 127=6:=by kernel_rfl
@[simp] theorem tO:Try.prog.bytesOf 127=96:=by kernel_rfl
@[simp] theorem pF:AC Try.prog 127 0=some (0,96):=by kernel_rfl
@[simp] theorem qG:AC Try.prog 127 1=some (2,3):=by kernel_rfl
@[simp] theorem oZ:AC Try.prog 127 2=some (3,3):=by kernel_rfl
@[simp] theorem pW:AC Try.prog 127 3=some (4,52):=by kernel_rfl
@[simp] theorem pM:AC Try.prog 127 4=some (5,26):=by kernel_rfl
@[simp] theorem tD:A6 Try.prog 127=some [.d (.int .i64 0),.nil 26,.d (.int .i64 0),.d (.int .i64 0),.nil 26,.nil 3]:=by kernel_rfl
@[simp] theorem tC:(Try.prog.underlying 137).isSome=true:=by kernel_rfl
@[simp] theorem tQ:CR Try.prog 137=true:=by kernel_rfl
@[simp] theorem uU:Try.prog.cellsOf 137=2:=by kernel_rfl
@[simp] theorem tF:Try.prog.bytesOf 137=16:=by kernel_rfl
@[simp] theorem pU:AC Try.prog 137 0=some (0,3):=by kernel_rfl
@[simp] theorem qA:AC Try.prog 137 1=some (1,3):=by kernel_rfl
@[simp] theorem uF:A6 Try.prog 137=some [.d (.int .i64 0),.d (.int .i64 0)]:=by kernel_rfl
@[simp] theorem sF:GQ Try.prog 137=true:=by kernel_rfl
@[simp] theorem sJ:(Try.prog.underlying 138).isSome=true:=by kernel_rfl
@[simp] theorem uC:CR Try.prog 138=true:=by kernel_rfl
@[simp] theorem RF:Try.prog.cellsOf 138=2:=by kernel_rfl
@[simp] theorem uL:Try.prog.bytesOf 138=16:=by kernel_rfl
@[simp] theorem qC:AC Try.prog 138 0=some (0,3):=by kernel_rfl
@[simp] theorem pG:AC Try.prog 138 1=some (1,3):=by kernel_rfl
@[simp] theorem tR:A6 Try.prog 138=some [.d (.int .i64 0),.d (.int .i64 0)]:=by kernel_rfl
@[simp] theorem rL:GQ Try.prog 138=true:=by kernel_rfl
@[simp] theorem uA:(Try.prog.underlying 157).isSome=true:=by kernel_rfl
@[simp] theorem sS:(Try.prog.underlying 161).isSome=true:=by kernel_rfl
@[simp] theorem rS:CR Try.prog 161=false:=by kernel_rfl
@[simp] theorem sN:Try.prog.cellsOf 161=1:=by kernel_rfl
@[simp] theorem sD:Try.prog.bytesOf 161=4:=by kernel_rfl
@[simp] theorem tB:A6 Try.prog 161=some [.d (.int .u32 0)]:=by kernel_rfl
@[simp] theorem sI:Try.prog.underlying 161=some (.int .u32):=by kernel_rfl
@[simp] theorem tK:(Try.prog.underlying 162).isSome=true:=by kernel_rfl
@[simp] theorem rY:CR Try.prog 162=false:=by kernel_rfl
@[simp] theorem rC:Try.prog.cellsOf 162=1:=by kernel_rfl
@[simp] theorem uK:Try.prog.bytesOf 162=1:=by kernel_rfl
@[simp] theorem sE:A6 Try.prog 162=some [.d (.int .u8 0)]:=by kernel_rfl
@[simp] theorem uB:Try.prog.underlying 162=some (.int .u8):=by kernel_rfl
@[simp] theorem sZ:(Try.prog.underlying 163).isSome=true:=by kernel_rfl
@[simp] theorem rZ:CR Try.prog 163=false:=by kernel_rfl
@[simp] theorem sC:Try.prog.cellsOf 163=1:=by kernel_rfl
@[simp] theorem rK:Try.prog.bytesOf 163=1:=by kernel_rfl
@[simp] theorem uR:A6 Try.prog 163=some [.d (.int .u8 0)]:=by kernel_rfl
@[simp] theorem uD:Try.prog.underlying 163=some (.int .u8):=by kernel_rfl
@[simp] theorem uS:(Try.prog.underlying 166).isSome=true:=by kernel_rfl
@[simp] theorem uT:CR Try.prog 166=false:=by kernel_rfl
@[simp] theorem tI:Try.prog.cellsOf 166=1:=by kernel_rfl
@[simp] theorem sP:Try.prog.bytesOf 166=4:=by kernel_rfl
@[simp] theorem rH:A6 Try.prog 166=some [.d (.int .i32 0)]:=by kernel_rfl
@[simp] theorem qV:Try.prog.underlying 166=some (.int .i32):=by kernel_rfl
@[simp] theorem tP:(Try.prog.underlying 167).isSome=true:=by kernel_rfl
@[simp] theorem qX:CR Try.prog 167=false:=by kernel_rfl
@[simp] theorem rG:Try.prog.cellsOf 167=1:=by kernel_rfl
@[simp] theorem qT:Try.prog.bytesOf 167=4:=by kernel_rfl
@[simp] theorem uI:A6 Try.prog 167=some [.d (.int .i32 0)]:=by kernel_rfl
@[simp] theorem tG:Try.prog.underlying 167=some (.int .i32):=by kernel_rfl
section
variable {P:Program} {m:Mode} {Q:Exit→St→Prop} {σ:St} {dr:Bool}
theorem U7:Ib P m .skip Q σ=Q .normal σ:=rfl
theorem T1 {id n:Nat} {s b:Bool} {ops:Array Oper}:Ib P ⟨n,s,b,false⟩ (.region id ops true) Q σ=(TB ops=true∧Bb P ⟨n,s,false,false⟩ ops (Q .normal) ops.toList σ):=rfl
theorem TZ {id n:Nat} {s b:Bool} {ops:Array Oper}:Ib P ⟨n,s,b,true⟩ (.region id ops true) Q σ=Rz P ⟨n,s,b,true⟩ ops Q σ:=rfl
theorem AJ {n:Nat} {s b:Bool} {ops:Array Oper} (q:Nat) (h:Ka ops q=true) (h2:Bb P ⟨n,s,false,true⟩ ops (Bb P ⟨n,s,b,true⟩ ops (Q .normal) (ops.toList.drop q)) (ops.toList.take q) σ):Rz P ⟨n,s,b,true⟩ ops Q σ:=.inl (.inl ⟨q,h,h2⟩)
theorem GV {id:Nat} {ops:Array Oper}:Ib P m (.region id ops false) Q σ=Bb P m ops (Q .normal) ops.toList σ:=rfl
theorem iH {n:Nat} {s b q:Bool}:(⟨n,s,b,q⟩:Mode).still=⟨n,s,false,q⟩:=rfl
theorem OB {a b:Code}:Ib P m (.seq a b) Q σ=Ib P m a (HC (Ib P m b Q) Q) σ:=rfl
def J5 (t:Bool) (A B:Prop):Prop:=(t=true→A)∧(t=false→B)
theorem OW {A B:Prop}:J5 true A B=A:=by simp[J5]
theorem Nv {A B:Prop}:J5 false A B=B:=by simp[J5]
def U4 (t:Bool) (A B:Prop):Prop:=J5 t A B
@[congr] theorem nZ {t t':Bool} {A B:Prop} (h:t=t'):U4 t A B=U4 t' A B:=by rw[h]
theorem Cn {A B:Prop}:U4 true A B=A:=OW
theorem B0 {A B:Prop}:U4 false A B=B:=Nv
def oA (P:Program) (m:Mode) (x y:Code) (Q:Exit→St→Prop) (σ:St) (v:V):Prop :=
 match v with
 | .d (.bool t)=>J5 t (Ib P m x Q σ) (Ib P m y Q σ)
 | _=>False
theorem O2 {x y:Code} {t:Bool}:oA P m x y Q σ (.d (.bool t))=J5 t (Ib P m x Q σ) (Ib P m y Q σ):=rfl
theorem Wp {c:Operand} {x y:Code}:Ib P m (.cond c x y) Q σ=oA P m x y Q σ (σ.eval c):=by
 show (match σ.eval c with
  | .d (.bool t)=>(t=true→Ib P m x Q σ)∧(t=false→Ib P m y Q σ)
  | _=>False)=_
 rfl
theorem RL {id:Nat} {c:Code}:Ib P m (.block id c) Q σ=Ib P m c (Hw id Q) σ:=rfl
theorem fI {id:Nat}:Ib P m (.exit id) Q σ=Q (.exit id) σ:=rfl
theorem Jd:Ib P m .ret Q σ=Q .ret σ:=rfl
section
variable {K:St→Prop} {d:Option Tmp} {ty:TypeId} {pos:String} {af:Array Edge} {g:Option (Nat×Bool)} {x y z:Operand} {t s:TypeId} {f n:Nat}
theorem dY {o:Oper} (h:VT P m o K σ=∃ x news,(Hv P m.st σ o=some x∧news=[])∧K (St.put ⟨σ.tmps,σ.slots++news⟩ o.dst x)):VT P m o K σ=∃ x,Hv P m.st σ o=some x∧K (σ.put o.dst x):=by
 rw[h];apply propext;constructor
 · rintro⟨x,news,⟨h1,rfl⟩,h2⟩;rw[List.append_nil] at h2;exact⟨x,h1,h2⟩
 · rintro⟨x,h1,h2⟩;exact⟨x,[],⟨h1,rfl⟩,by rw[List.append_nil];exact h2⟩
theorem Sy {v:V} {K:V→Prop}:(∃ x,some v=some x∧K x)=K v:=by
 apply propext;constructor
 · rintro⟨x,h,hk⟩;cases h;exact hk
 · exact fun h=>⟨v,rfl,h⟩
variable {ops:Array Oper} {rest:List Oper}
def Fq (P:Program) (m:Mode) (ops:Array Oper) (K:St→Prop) (rest:List Oper) (σ:St) (d:Option Tmp) (v:Option V):Prop:=∃ x,v=some x∧Bb P m ops K rest (σ.put d x)
theorem DS {v:V}:Fq P m ops K rest σ d (some v)=Bb P m ops K rest (σ.put d v):=Sy
def iR (P:Program) (m:Mode) (ops:Array Oper) (K:St→Prop) (T:List (Oper×List Nat)) (N:List (Nat×List Nat)) (σ:St):Prop:=Gk P m ops N σ.slots K T σ
theorem aT {T:List (Oper×List Nat)} {N:List (Nat×List Nat)} {ts:List V} {sl:List Ag}:iR P m ops K T N ⟨ts,sl⟩=Gk P m ops N sl K T ⟨ts,sl⟩:=rfl
def oG (P:Program) (m:Mode) (ops:Array Oper) (N:List (Nat×List Nat)) (sl0:List Ag) (K:St→Prop) (ns:List Nat) (T:List (Oper×List Nat)) (σ:St):Prop:=EY sl0 σ.slots ns N∧Gk P m ops N sl0 K T σ
theorem cX {T:List (Oper×List Nat)} {N:List (Nat×List Nat)} {sl0:List Ag} {ns:List Nat} {ts:List V} {sl:List Ag}:oG P m ops N sl0 K ns T ⟨ts,sl⟩=(EY sl0 sl ns N∧Gk P m ops N sl0 K T ⟨ts,sl⟩):=rfl
theorem Zs {KE:List (Nat×List Nat)→St→Prop} {ts N:List (Nat×List Nat)}:KX P m ops ts KE [] N σ=KE N σ:=rfl
theorem WM {KE:List (Nat×List Nat)→St→Prop} {ts N:List (Nat×List Nat)} {i:Nat} {o:Oper} {E:List (Nat×Oper)}:KX P m ops ts KE ((i,o)::E) N σ=Bb P m ops (KX P m ops ts KE E (if NO ts i=true then (i,Gh o σ)::N else N)) [o] σ:=rfl
theorem bB {N:List (Nat×List Nat)} {sl0:List Ag}:Gk P m ops N sl0 K [] σ=K σ:=rfl
def Ts (P:Program) (m:Mode) (ops:Array Oper) (N:List (Nat×List Nat)) (sl0:List Ag) (K:St→Prop) (ns:List Nat) (T:List (Oper×List Nat)) (σ:St) (d:Option Tmp) (f:FuncId) (xs near:List V):Prop :=
 m.st=false∧∃ (ks π:List Nat) (args:List V) (slc:List Ag) (q:V) (slc':List Ag),BS P f args slc q slc'∧Bi slc∧ks.Nodup∧I7 σ.slots ks∧π.Nodup∧Ed true (kill ks σ.slots) π π slc∧Hn true (kill ks σ.slots) π (xs.map (K0 σ.slots ks)) args ∧
  (∀ k∈ks++π,Bg σ.slots near k)∧fY (kill ks σ.slots) π q slc' fun z r=>EY sl0 r ns N∧Gk P m ops N sl0 K T (St.put ⟨σ.tmps,r⟩ d z)
def gE (t:Bool) (A B:Prop):Prop:=if t=true then A else B
theorem Po {A B:Prop}:gE true A B=A:=rfl
theorem Wf {A B:Prop}:gE false A B=B:=rfl
def Ta (P:Program) (m:Mode) (ops:Array Oper) (N:List (Nat×List Nat)) (sl0:List Ag) (K:St→Prop) (ns:List Nat) (T:List (Oper×List Nat)) (σ:St) (d:Option Tmp) (v:V) (xs:List V):Prop :=
 match v with
 | .fn f caps=>Ts P m ops N sl0 K ns T σ d f (xs++caps) (.fn f caps::xs)
 | _=>False
theorem Kw {N:List (Nat×List Nat)} {sl0:List Ag} {ns:List Nat} {T:List (Oper×List Nat)} {f:FuncId} {caps xs:List V}:Ta P m ops N sl0 K ns T σ d (.fn f caps) xs=Ts P m ops N sl0 K ns T σ d f (xs++caps) (.fn f caps::xs):=rfl
def Xn (P:Program) (m:Mode) (ops:Array Oper) (N:List (Nat×List Nat)) (sl0:List Ag) (K:St→Prop) (ns:List Nat) (T:List (Oper×List Nat)) (σ:St) (d:Option Tmp) (op:Op):Prop :=
 match op with
 | .call c=>match c.callee with
   | .value (.func f)=>Ts P m ops N sl0 K ns T σ d f (c.args.toList.map σ.eval) (.fn f []::c.args.toList.map σ.eval)
   | .value v=>Ta P m ops N sl0 K ns T σ d (σ.eval v) (c.args.toList.map σ.eval)
   | _=>False
 | _=>False
theorem dL {N:List (Nat×List Nat)} {sl0:List Ag} {ns:List Nat} {T:List (Oper×List Nat)} {o:Oper} {c:Call} {v:Operand} (ho:o.op=.call c) (hc:c.callee=.value v) :
 (∃ z r,Rv P m o σ z r∧EY sl0 r ns N∧Gk P m ops N sl0 K T (St.put ⟨σ.tmps,r⟩ d z))=Ta P m ops N sl0 K ns T σ d (σ.eval v) (c.args.toList.map σ.eval):=by
 apply propext;constructor
 · rintro⟨z,r,⟨h0,v',f,caps,c',ho',hc',hf,ks,π,aa,slc,q,slc',h1,h2,h3,h4,h5,h6,h7,h8,r1,ys,b1,b2,rfl,rfl⟩,hs,hk⟩;rw[ho] at ho'
   cases ho'
   rw[hc] at hc'
   cases hc'
   rw[hf,Kw];exact⟨h0,ks,π,aa,slc,q,slc',h1,h2,h3,h4,h5,h6,h7,h8,_,ys,b1,b2,hs,hk⟩
 · intro h
   cases hv:σ.eval v with
   | fn f caps =>
     rw[hv,Kw] at h;obtain⟨h0,ks,π,aa,slc,q,slc',h1,h2,h3,h4,h5,h6,h7,h8,r1,ys,b1,b2,hs,hk⟩:=h;exact⟨_,_,⟨h0,v,f,caps,c,ho,hc,hv,ks,π,aa,slc,q,slc',h1,h2,h3,h4,h5,h6,h7,h8,r1,ys,b1,b2,rfl,rfl⟩,hs,hk⟩
   | _=>rw[hv] at h;exact h.elim
theorem Xc {N:List (Nat×List Nat)} {sl0:List Ag} {o:Oper} {ns:List Nat} {T:List (Oper×List Nat)}:Gk P m ops N sl0 K ((o,ns)::T) σ=gE (HZ o) (Xn P m ops N sl0 K ns T σ o.dst o.op) (Bb P m ops (oG P m ops N sl0 K ns T) [o] σ):=by
 show (if HZ o=true then _ else _)=_
 cases hc:HZ o with
 | false=>rfl
 | true =>
   rw[if_pos rfl,Po];unfold HZ at hc;split at hc
   · rename_i c ho;split at hc
     · rename_i v hf;rw[dL ho hf];unfold Xn;rw[ho];simp only[hf]
       cases v with
       | func f =>
         show Ta P m ops N sl0 K ns T σ o.dst (.fn f []) _=_;rw[Kw,List.append_nil]
       | tmp t=>rfl
       | _=>simp[iS] at hc
     · cases hc
   · cases hc
def cR (P:Program) (m:Mode) (ops:Array Oper) (N:List (Nat×List Nat)) (sl0:List Ag) (K:St→Prop) (ns:List Nat) (T:List (Oper×List Nat)) (Tm:List V) (d:Option Tmp) (sl:List Ag) (π:List Nat) (r':Option V) (ys:Option (List Ag)):Prop :=
 ∃ r ys',r'=some r∧ys=some ys'∧EY sl0 (BJ sl π (ys'.take π.length)++ys'.drop π.length) ns N∧Gk P m ops N sl0 K T (St.put ⟨Tm,BJ sl π (ys'.take π.length)++ys'.drop π.length⟩ d r)
theorem Vb {N:List (Nat×List Nat)} {sl0:List Ag} {ns:List Nat} {T:List (Oper×List Nat)} {Tm:List V} {sl:List Ag} {π:List Nat} {r:V} {ys:List Ag}:cR P m ops N sl0 K ns T Tm d sl π (some r) (some ys)=(EY sl0 (BJ sl π (ys.take π.length)++ys.drop π.length) ns N∧Gk P m ops N sl0 K T (St.put ⟨Tm,BJ sl π (ys.take π.length)++ys.drop π.length⟩ d r)):=by
 apply propext;constructor
 · rintro⟨_,_,h1,h2,h⟩;cases h1;cases h2;exact h
 · exact fun h=>⟨_,_,rfl,rfl,h⟩
theorem AS {n:Nat} {s b:Bool} {ops:Array Oper} (ts:List (Nat×List Nat)) (h:Lw ops ts=true) (h2:KX P ⟨n,s,false,true⟩ ops ts (iR P ⟨n,s,false,true⟩ ops (Q .normal) (Mi ops.toList ts)) (KW ts 0 ops.toList) [] σ):Rz P ⟨n,s,b,true⟩ ops Q σ:=.inl (.inr (.inl ⟨ts,h,h2⟩))
def pP (P:Program) (m:Mode) (ops:Array Oper) (K:St→Prop) (ts:List (Nat×List Nat)) (N:List (Nat×List Nat)) (σ:St):Prop:=RQ P m ops N σ.slots K ts.length ts σ
theorem aI {T:List (Nat×List Nat)} {N:List (Nat×List Nat)} {ts:List V} {sl:List Ag}:pP P m ops K T N ⟨ts,sl⟩=RQ P m ops N sl K T.length T ⟨ts,sl⟩:=rfl
theorem Ww {N T:List (Nat×List Nat)} {sl0:List Ag}:RQ P m ops N sl0 K 0 T σ=K σ:=rfl
theorem K8 {n:Nat} {sb:Bool} {ops:Array Oper} {dA dB dC dD dE dF dG dH:Nat} {t ti tj:TypeId} {x y:Operand} (k:Nat) (e:TypeId) (es:List (List D)) (at':Nat) (hok:SV ops=true)
 (h1:ops.toList.map K6=[(some dA,.move x,none),(some dB,.move y,none),(some dC,.binOp .add ti (.tmp dB) (.const (.int .i64 1)) tj,none),(some dD,.slice t (.tmp dA) (some (.tmp dC)) none none,none),(some dE,.move x,none),(some dF,.move y,none),
   (some dG,.slice t (.tmp dE) (some (.tmp dF)) none none,none),(some dH,.call { callee:=.builtin .copy,args:=#[.tmp dD,.tmp dG],argTypes:=#[t,t] },none)])
 (h2:[dA,dB,dC,dD,dE,dF,dG,dH].Nodup) (h3:∀ d∈[dA,dB,dC,dD,dE,dF,dG,dH],d<σ.tmps.length∧x≠.tmp d∧y≠.tmp d) (h4:σ.eval x=.ref k) (h5:σ.slots[k]? = some (.arr e false es)) (h6:Bt P t=some e) (h7:(P.underlying e).isSome=true) (h8:P.cellsOf e=1) (h9:(P.info? e).map (·.size)=some 1)
 (h10:σ.eval y=.d (.int .i64 at')) (h11:at'<es.length) (h12:Q .normal ⟨forgetL σ.tmps [dA,dB,dC,dD,dE,dF,dG,dH],σ.slots.set k (.arr e false (Ff es at'))⟩):Rz P ⟨n,sb,true,true⟩ ops Q σ :=
 .inr (.inr (.inr ⟨rfl,hok,dA,dB,dC,dD,dE,dF,dG,dH,t,ti,tj,x,y,k,e,es,at',h1,h2,h3,h4,h5,h6,h7,h8,h9,h10,h11,h12⟩))
theorem Gp:Bb P m ops K [] σ=K σ:=rfl
theorem Gf {op:Op}:Bb P m ops K (⟨d,op,ty,pos,af,none⟩::rest) σ=VT P m ⟨d,op,ty,pos,af,none⟩ (Bb P m ops K rest) σ:=rfl
theorem Cr {op:Op} (h:VT P m ⟨d,op,ty,pos,af,none⟩ (Bb P m ops K rest) σ=∃ x news,(Hv P m.st σ ⟨d,op,ty,pos,af,none⟩=some x∧news=[])∧Bb P m ops K rest (St.put ⟨σ.tmps,σ.slots++news⟩ d x)):Bb P m ops K (⟨d,op,ty,pos,af,none⟩::rest) σ=Fq P m ops K rest σ d (Hv P m.st σ ⟨d,op,ty,pos,af,none⟩):=by
 rw[Gf];exact dY h
theorem Kg:Bb P m ops K (⟨d,.move x,ty,pos,af,none⟩::rest) σ=Bb P m ops K rest (σ.put d (evalT P ty σ x)):=(Cr rfl).trans Sy
theorem Et:Bb P m ops K (⟨d,.assign x,ty,pos,af,none⟩::rest) σ=Bb P m ops K rest (σ.put d (evalT P ty σ x)):=(Cr rfl).trans Sy
def Pi (t a b:V):Option V :=
 match t with
 | .d (.bool t)=>some (KO t a b)
 | _=>none
theorem IJ:Bb P m ops K (⟨d,.pick x y z,ty,pos,af,none⟩::rest) σ=Fq P m ops K rest σ d (Pi (σ.eval x) (σ.eval y) (σ.eval z)):=Cr rfl
theorem FT {op:BinOp}:Bb P m ops K (⟨d,.binOp op t x y s,ty,pos,af,none⟩::rest) σ=Fq P m ops K rest σ d (GS P σ.slots t op (σ.eval x) (σ.eval y)):=Cr rfl
theorem gN {op:UnOp}:Bb P m ops K (⟨d,.unOp op t x,ty,pos,af,none⟩::rest) σ=Fq P m ops K rest σ d (zB op (σ.eval x)):=Cr rfl
def jE (P:Program) (s t:TypeId) (x:V):Option V :=
 match P.underlying s,P.underlying t,x with
 | some _,some (.int k),.d (.int _ n)=>some (V.d (.int k (k.wrap n)))
 | _,_,_=>none
theorem NI:Bb P m ops K (⟨d,.convert s t x,ty,pos,af,none⟩::rest) σ=Fq P m ops K rest σ d (jE P s t (σ.eval x)):=Cr rfl
def nG (P:Program) (t:TypeId) (sl:List Ag) (x:V):Option V :=
 match Bt P t with
 | some _=>(Jx sl x).map fun (n:Nat)=>V.d (.int .i64 (n:Int))
 | none=>none
theorem Tu:Bb P m ops K (⟨d,.call ⟨.builtin .len,#[x],#[t]⟩,ty,pos,af,none⟩::rest) σ=Fq P m ops K rest σ d (nG P t σ.slots (σ.eval x)):=Cr rfl
def AAT (x y:V):Option V :=
 match [x,y] with
 | [.d (.int k a),.d (.int _ b)]=>some (V.d (.int k (if b > a then b else a)))
 | _=>none
def vU (x y:V):Option V :=
 match [x,y] with
 | [.d (.int k a),.d (.int _ b)]=>some (V.d (.int k (if b<a then b else a)))
 | _=>none
theorem mG {ts:Array TypeId}:Bb P m ops K (⟨d,.call ⟨.builtin .max,#[x,y],ts⟩,ty,pos,af,none⟩::rest) σ=Fq P m ops K rest σ d (AAT (σ.eval x) (σ.eval y)):=Cr rfl
theorem mK {ts:Array TypeId}:Bb P m ops K (⟨d,.call ⟨.builtin .min,#[x,y],ts⟩,ty,pos,af,none⟩::rest) σ=Fq P m ops K rest σ d (vU (σ.eval x) (σ.eval y)):=Cr rfl
def zZ (P:Program) (t:TypeId) (sl:List Ag) (x i:V):Option V :=
 match GO i with
 | some n=>JK P t sl x n
 | none=>none
theorem Q6:Bb P m ops K (⟨d,.indexAddr t x y,ty,pos,af,none⟩::rest) σ=Fq P m ops K rest σ d (zZ P t σ.slots (σ.eval x) (σ.eval y)):=Cr rfl
theorem Ic:Bb P m ops K (⟨d,.load t x,ty,pos,af,none⟩::rest) σ=Fq P m ops K rest σ d (HX P m.st t σ.slots (σ.eval x)):=Cr rfl
theorem D7:Bb P m ops K (⟨d,.fieldAddr t x f,ty,pos,af,none⟩::rest) σ=Fq P m ops K rest σ d (CK P t σ.slots (σ.eval x) f):=Cr rfl
theorem Zk:Bb P m ops K (⟨d,.field t x f,ty,pos,af,none⟩::rest) σ=Fq P m ops K rest σ d (OL P t (σ.eval x) f):=Cr rfl
def zW (x:V) (i:Nat):Option V :=
 match x with
 | .tup xs=>xs[i]?
 | _=>none
theorem Uv:Bb P m ops K (⟨d,.extract x f,ty,pos,af,none⟩::rest) σ=Fq P m ops K rest σ d (zW (σ.eval x) f):=Cr rfl
def vJ (sl:List Ag) (x:V):Option V :=
 match x with
 | .ptr s p=>match sl[s]? with
   | some (.var _ _)=>some (V.ptr s p)
   | _=>none
 | .cptr ds=>some (.cptr ds)
 | _=>none
theorem TK:Bb P m ops K (⟨d,.nilCheck x,ty,pos,af,none⟩::rest) σ=Fq P m ops K rest σ d (vJ σ.slots (σ.eval x)):=Cr rfl
def jM (P:Program) (e:TypeId) (z:List V) (ps:List (Nat×V)):Option V:=(EB (fun i=>some (i*P.cellsOf e,P.cellsOf e)) z ps).map .agg
def cZ (P:Program) (t:TypeId) (ps:List (Nat×V)):Option V :=
 match P.underlying t,A6 P t with
 | some (.struct _),some z=>(EB (LO P t) z ps).map .agg
 | some (.array _ e),some z=>jM P e z ps
 | _,_=>none
theorem aX {ps:Array (Nat×Operand)}:Bb P m ops K (⟨d,.build t ps,ty,pos,af,none⟩::rest) σ=Fq P m ops K rest σ d (cZ P t (ps.toList.map fun p=>(p.1,σ.eval p.2))):=Cr rfl
def oP (P:Program) (m:Mode) (ops:Array Oper) (K:St→Prop) (rest:List Oper) (σ:St) (d:Option Tmp) (t:TypeId) (v:Option (List V)):Prop:=∃ z,v=some z∧Bb P m ops K rest (St.put ⟨σ.tmps,σ.slots++[.var t z]⟩ d (.ptr σ.slots.length 0))
theorem WB {v:List V}:oP P m ops K rest σ d t (some v)=Bb P m ops K rest (St.put ⟨σ.tmps,σ.slots++[.var t v]⟩ d (.ptr σ.slots.length 0)):=by
 apply propext;constructor
 · rintro⟨x,h,hk⟩;cases h;exact hk
 · exact fun h=>⟨v,rfl,h⟩
theorem Zl:Bb P m ops K (⟨d,.alloc t,ty,pos,af,none⟩::rest) σ=oP P m ops K rest σ d t (A6 P t):=by
 rw[Gf];apply propext;constructor
 · rintro⟨x,news,⟨z,h1,rfl,rfl⟩,h2⟩;exact⟨z,h1,h2⟩
 · rintro⟨z,h1,h2⟩;exact⟨_,_,⟨z,h1,rfl,rfl⟩,h2⟩
theorem Sv:Bb P m ops K (⟨d,.box t x,ty,pos,af,none⟩::rest) σ=((Ba (σ.eval x)).all V.cell=true∧Bb P m ops K rest (St.put ⟨σ.tmps,σ.slots++[.var t (Ba (σ.eval x))]⟩ d (.ptr σ.slots.length 0))):=by
 rw[Gf];apply propext;constructor
 · rintro⟨y,news,⟨h1,rfl,rfl⟩,h2⟩;exact⟨h1,h2⟩
 · rintro⟨h1,h2⟩;exact⟨_,_,⟨h1,rfl,rfl⟩,h2⟩
def FA (P:Program) (m:Mode) (ops:Array Oper) (K:St→Prop) (rest:List Oper) (σ:St) (d:Option Tmp) (r:X):Prop:=Bb P m ops K rest (St.put ⟨σ.tmps,σ.slots++(inst σ.slots.length r).2⟩ d (inst σ.slots.length r).1)
def Rp (P:Program) (m:Mode) (ops:Array Oper) (K:St→Prop) (rest:List Oper) (σ:St) (d:Option Tmp) (fn:FuncId) (p:Option (List X)) (xs:List V):Prop :=
 (∃ r,jN P fn p r∧FA P m ops K rest σ d r)∨(YQ P m σ.slots fn xs (fun z sl'=>Bb P m ops K rest (St.put ⟨σ.tmps,sl'⟩ d z))∨cL P m σ.slots fn xs fun z sl'=>Bb P m ops K rest (St.put ⟨σ.tmps,sl'⟩ d z))
def Y6 (P:Program) (m:Mode) (ops:Array Oper) (K:St→Prop) (rest:List Oper) (σ:St) (d:Option Tmp) (v:V) (xs:List V):Prop :=
 match v with
 | .fn f caps=>Rp P m ops K rest σ d f (DU σ.slots (xs++caps)) (xs++caps)
 | _=>False
theorem Kb {f:FuncId} {caps xs:List V}:Y6 P m ops K rest σ d (.fn f caps) xs=Rp P m ops K rest σ d f (DU σ.slots (xs++caps)) (xs++caps):=rfl
theorem IH {v:Operand} {args:Array Operand} {ts:Array TypeId}:Bb P m ops K (⟨d,.call ⟨.value v,args,ts⟩,ty,pos,af,none⟩::rest) σ=Y6 P m ops K rest σ d (σ.eval v) (args.toList.map σ.eval):=by
 rw[Gf];unfold Y6 Rp FA;show ((∃ x news,AQ P m.st σ.slots.length σ _ x news∧_)∨(match σ.eval v with | .fn f caps=>_|_=>False))=_;unfold AQ;simp only;generalize σ.eval v=g
 cases g with
 | fn f caps =>
   simp only;apply propext;constructor
   · rintro (⟨y,news,⟨r,h1,rfl,rfl⟩,h2⟩|h)
     · exact .inl ⟨r,h1,h2⟩
     · exact .inr h
   · rintro (⟨r,h1,h2⟩|h)
     · exact .inl ⟨_,_,⟨r,h1,rfl,rfl⟩,h2⟩
     · exact .inr h
 | _=>simp
theorem LS {fn:FuncId} {args:Array Operand} {ts:Array TypeId}:Bb P m ops K (⟨d,.call ⟨.value (.func fn),args,ts⟩,ty,pos,af,none⟩::rest) σ=Rp P m ops K rest σ d fn (DU σ.slots (args.toList.map σ.eval)) (args.toList.map σ.eval):=by
 rw[IH];show Y6 P m ops K rest σ d (.fn fn []) _=_;rw[Kb,List.append_nil]
theorem Ab {fn:FuncId} {xs:List X} {ys:List V} {r:X} (h:CI P fn xs r) (h2:FA P m ops K rest σ d r):Rp P m ops K rest σ d fn (some xs) ys:=.inl ⟨r,yO h,h2⟩
def W4 (sl:List Ag) (ks π:List Nat) (xs args:List V) (slc:List Ag):Prop :=
 Bi slc∧ks.Nodup∧I7 sl ks∧π.Nodup∧Ed true (kill ks sl) π π slc∧Hn true (kill ks sl) π (xs.map (K0 sl ks)) args
def iT (P:Program) (m:Mode) (ops:Array Oper) (K:St→Prop) (rest:List Oper) (T:List V) (d:Option Tmp) (sl:List Ag) (π:List Nat) (r':Option V) (ys:Option (List Ag)):Prop :=
 ∃ r ys',r'=some r∧ys=some ys'∧Bb P m ops K rest (St.put ⟨T,BJ sl π (ys'.take π.length)++ys'.drop π.length⟩ d r)
theorem V9 {T:List V} {sl:List Ag} {π:List Nat} {r:V} {ys:List Ag}:iT P m ops K rest T d sl π (some r) (some ys)=Bb P m ops K rest (St.put ⟨T,BJ sl π (ys.take π.length)++ys.drop π.length⟩ d r):=by
 apply propext;constructor
 · rintro⟨_,_,h1,h2,h⟩;cases h1;cases h2;exact h
 · exact fun h=>⟨_,_,rfl,rfl,h⟩
theorem Ac {n:Nat} {fn:FuncId} {p:Option (List X)} {xs args:List V} {slc slc':List Ag} {r:V} (h:BS P fn args slc r slc') (ks π:List Nat) (he:W4 σ.slots ks π xs args slc)
 (ha:iT P ⟨n,false,true,dr⟩ ops K rest σ.tmps d (kill ks σ.slots) π (aQ (π++List.range' (kill ks σ.slots).length (slc'.length - π.length)) r) (Mh (π++List.range' (kill ks σ.slots).length (slc'.length - π.length)) slc')):Rp P ⟨n,false,true,dr⟩ ops K rest σ d fn p xs:=by
 obtain⟨h1,h2,h3,h4,h5,h6⟩:=he;obtain⟨r',ys,k1,k2,k3⟩:=ha;exact .inr (.inl ⟨rfl,rfl,ks,π,args,slc,r,slc',h,h1,h2,h3,h4,h5,h6,r',ys,k1,k2,k3⟩)
theorem Au {n:Nat} {b:Bool} {N:List (Nat×List Nat)} {sl0:List Ag} {ns:List Nat} {T:List (Oper×List Nat)} {fn:FuncId} {xs near args:List V} {slc slc':List Ag} {r:V} (h:BS P fn args slc r slc') (ks π:List Nat) (he:W4 σ.slots ks π xs args slc) (hn:∀ k∈ks++π,Bg σ.slots near k)
 (ha:cR P ⟨n,false,b,dr⟩ ops N sl0 K ns T σ.tmps d (kill ks σ.slots) π (aQ (π++List.range' (kill ks σ.slots).length (slc'.length - π.length)) r) (Mh (π++List.range' (kill ks σ.slots).length (slc'.length - π.length)) slc')):Ts P ⟨n,false,b,dr⟩ ops N sl0 K ns T σ d fn xs near:=by
 obtain⟨h1,h2,h3,h4,h5,h6⟩:=he;obtain⟨r',ys,k1,k2,k3⟩:=ha;exact⟨rfl,ks,π,args,slc,r,slc',h,h1,h2,h3,h4,h5,h6,hn,r',ys,k1,k2,k3⟩
def eI (P:Program) (t:TypeId) (σ:St) (x:V) (lo hi:Option Operand):Option V :=
 match Jx σ.slots x with
 | some n=>Ul P t x (Dh σ lo 0) (Dh σ hi n)
 | none=>none
def WR (P:Program) (t:TypeId) (σ:St) (s:Nat) (lo hi:Option Operand):Option (V×List Ag) :=
 match Jx σ.slots (.ref s) with
 | some n=>Pu P t σ.slots s lo hi (Dh σ lo 0) (Dh σ hi n)
 | none=>none
def eM (P:Program) (m:Mode) (ops:Array Oper) (K:St→Prop) (rest:List Oper) (σ:St) (d:Option Tmp) (v:Option (V×List Ag)):Prop:=m.tc=true∧m.st=false∧∃ z sl',v=some (z,sl')∧Bb P m ops K rest (St.put ⟨σ.tmps,sl'⟩ d z)
theorem Xa {z:V} {sl':List Ag}:eM P m ops K rest σ d (some (z,sl'))=(m.tc=true∧m.st=false∧Bb P m ops K rest (St.put ⟨σ.tmps,sl'⟩ d z)):=by
 apply propext;constructor
 · rintro⟨h1,h2,_,_,h,hk⟩;cases h;exact⟨h1,h2,hk⟩
 · exact fun ⟨h1,h2,h⟩=>⟨h1,h2,_,_,rfl,h⟩
def Xj (P:Program) (m:Mode) (ops:Array Oper) (K:St→Prop) (rest:List Oper) (σ:St) (d:Option Tmp) (t:TypeId) (x:V) (lo hi:Option Operand):Prop :=
 match x with
 | .ref s=>eM P m ops K rest σ d (WR P t σ s lo hi)
 | x=>Fq P m ops K rest σ d (eI P t σ x lo hi)
theorem aN {lo hi:Option Operand}:Bb P m ops K (⟨d,.slice t x lo hi none,ty,pos,af,none⟩::rest) σ=Xj P m ops K rest σ d t (σ.eval x) lo hi:=by
 rw[Gf];unfold Xj
 have quiet:∀ v,σ.eval x=v→(∃ z news,AQ P m.st σ.slots.length σ ⟨d,.slice t x lo hi none,ty,pos,af,none⟩ z news∧Bb P m ops K rest (St.put ⟨σ.tmps,σ.slots++news⟩ d z))=Fq P m ops K rest σ d (eI P t σ v lo hi):=by
  rintro v rfl;unfold Fq;apply propext;constructor
  · rintro⟨z,news,⟨h1,rfl⟩,h2⟩;rw[List.append_nil] at h2;exact⟨z,h1,h2⟩
  · rintro⟨z,h1,h2⟩;exact⟨z,[],⟨h1,rfl⟩,by rw[List.append_nil];exact h2⟩
 cases hv:σ.eval x with
 | ref s =>
   show (match σ.eval x with | .ref s=>_|_=>_)=_;rw[hv];simp only;unfold eM WR;apply propext;constructor
   · rintro⟨h1,h2,n,z,sl',h3,h4,h5⟩;refine⟨h1,h2,z,sl',?_,h5⟩;rw[h3];exact h4
   · rintro⟨h1,h2,z,sl',h3,h4⟩;split at h3
     · rename_i n hn;exact⟨h1,h2,n,z,sl',hn,h3,h4⟩
     · cases h3
 | _ =>
   show (match σ.eval x with | .ref s=>_|_=>_)=_;rw[hv];simp only;exact quiet _ hv
def nU (f:FuncId) (first:Array Operand) (caps:List V):Option V:=if first.isEmpty=true then some (.fn f caps) else none
theorem Ss {fn:FuncId} {first caps:Array Operand}:Bb P m ops K (⟨d,.makeFunc (.func fn) first caps,ty,pos,af,none⟩::rest) σ=Fq P m ops K rest σ d (nU fn first (caps.toList.map σ.eval)):=Cr rfl
def oB (P:Program) (m:Mode) (ops:Array Oper) (K:St→Prop) (rest:List Oper) (σ:St) (d:Option Tmp) (v:Option (List Ag)):Prop:=∃ sl',v=some sl'∧Bb P m ops K rest (St.put ⟨σ.tmps,sl'⟩ d .any)
theorem XI {v:List Ag}:oB P m ops K rest σ d (some v)=Bb P m ops K rest (St.put ⟨σ.tmps,v⟩ d .any):=by
 apply propext;constructor
 · rintro⟨x,h,hk⟩;cases h;exact hk
 · exact fun h=>⟨v,rfl,h⟩
def oJ (P:Program) (m:Mode) (ops:Array Oper) (K:St→Prop) (rest:List Oper) (σ:St) (d:Option Tmp) (t:TypeId) (ok:Bool) (q:Option (Nat×TypeId×List (Ky×Vl))) (k:Option Ky) (z:Option Vl):Prop :=
 ∃ s es ky z',q=some (s,t,es)∧k=some ky∧z=some z'∧Fi P t ky∧Bb P m ops K rest (σ.put d (Sf ok (E6 es ky) z'))
theorem WT {ok:Bool} {s:Nat} {t':TypeId} {es:List (Ky×Vl)} {ky:Ky} {z:Vl}:oJ P m ops K rest σ d t ok (some (s,t',es)) (some ky) (some z)=(t'=t∧Fi P t ky∧Bb P m ops K rest (σ.put d (Sf ok (E6 es ky) z))):=by
 apply propext;constructor
 · rintro⟨_,_,_,_,h1,h2,h3,h4,h5⟩;cases h1;cases h2;cases h3;exact⟨rfl,h4,h5⟩
 · rintro⟨rfl,h4,h5⟩;exact⟨_,_,_,_,rfl,rfl,rfl,h4,h5⟩
theorem Xm {ok:Bool}:Bb P m ops K (⟨d,.lookup t x y ok,ty,pos,af,none⟩::rest) σ=oJ P m ops K rest σ d t ok (IK σ.slots (σ.eval x)) (Oi (σ.eval y)) (JI P t):=by
 rw[Gf];apply propext;constructor
 · rintro⟨v,news,⟨s,es,ky,z,h1,h2,h3,h4,rfl,rfl⟩,h6⟩;rw[List.append_nil] at h6;exact⟨s,es,ky,z,h1,h2,h3,h4,h6⟩
 · rintro⟨s,es,ky,z,h1,h2,h3,h4,h6⟩;exact⟨_,[],⟨s,es,ky,z,h1,h2,h3,h4,rfl,rfl⟩,by rw[List.append_nil];exact h6⟩
theorem Va:Bb P m ops K (⟨d,.makeMap t none,ty,pos,af,none⟩::rest) σ=Bb P m ops K rest (St.put ⟨σ.tmps,σ.slots++[.blk (.mp t [])]⟩ d (.ref σ.slots.length)):=by
 rw[Gf];apply propext;constructor
 · rintro⟨v,news,⟨rfl,rfl⟩,h6⟩;exact h6
 · exact fun h=>⟨_,_,⟨rfl,rfl⟩,h⟩
def AAV (P:Program) (m:Mode) (ops:Array Oper) (K:St→Prop) (rest:List Oper) (σ:St) (d:Option Tmp) (t:TypeId) (q:Option (Nat×TypeId×List (Ky×Vl))) (k:Option Ky) (v:Option Vl):Prop :=
 m.tc=true∧∃ s es ky v',q=some (s,t,es)∧k=some ky∧v=some v'∧Fi P t ky∧Bb P m ops K rest (St.put ⟨σ.tmps,σ.slots.set s (.blk (.mp t (GJ es ky v')))⟩ d .any)
theorem Ze {s:Nat} {t':TypeId} {es:List (Ky×Vl)} {ky:Ky} {v:Vl}:AAV P m ops K rest σ d t (some (s,t',es)) (some ky) (some v)=(m.tc=true∧t'=t∧Fi P t ky∧Bb P m ops K rest (St.put ⟨σ.tmps,σ.slots.set s (.blk (.mp t (GJ es ky v)))⟩ d .any)):=by
 apply propext;constructor
 · rintro⟨h0,_,_,_,_,h1,h2,h3,h4,h5⟩;cases h1;cases h2;cases h3;exact⟨h0,rfl,h4,h5⟩
 · rintro⟨h0,rfl,h4,h5⟩;exact⟨h0,_,_,_,_,rfl,rfl,rfl,h4,h5⟩
theorem QK:Bb P m ops K (⟨d,.mapUpdate t x y z,ty,pos,af,none⟩::rest) σ=AAV P m ops K rest σ d t (IK σ.slots (σ.eval x)) (Oi (σ.eval y)) (Zf (σ.eval z)):=rfl
theorem bA:Bb P m ops K (⟨d,.store t x y,ty,pos,af,none⟩::rest) σ=oB P m ops K rest σ d (H8 P m.st t σ.slots (σ.eval x) (evalT P t σ y)):=rfl
def jB (P:Program) (m:Mode) (ops:Array Oper) (K:St→Prop) (rest:List Oper) (σ:St) (d:Option Tmp) (t:TypeId) (x y:V):Prop:=nY P m σ.slots t x y fun z sl'=>Bb P m ops K rest (St.put ⟨σ.tmps,sl'⟩ d z)
theorem XN:Bb P m ops K (⟨d,.call ⟨.builtin .append,#[x,y],#[t,t]⟩,ty,pos,af,none⟩::rest) σ=jB P m ops K rest σ d t (evalT P t σ x) (evalT P t σ y):=by
 rw[Gf];show (t=t∧_)=_;simp only[true_and];rfl
def fJ (P:Program) (m:Mode) (ops:Array Oper) (K:St→Prop) (rest:List Oper) (σ:St) (d:Option Tmp) (v:Option (V×Ag)):Prop:=∃ x y,v=some (x,y)∧Bb P m ops K rest (St.put ⟨σ.tmps,σ.slots++[y]⟩ d x)
theorem Wv {v:V} {y:Ag}:fJ P m ops K rest σ d (some (v,y))=Bb P m ops K rest (St.put ⟨σ.tmps,σ.slots++[y]⟩ d v):=by
 apply propext;constructor
 · rintro⟨x,y,h,hk⟩;cases h;exact hk
 · exact fun h=>⟨v,y,rfl,h⟩
def pL (n:Nat) (e:TypeId) (s len:Nat) (cells:List V):V×Ag :=
 match BG cells with
 | some ds=>(.ref n,.arr e (cells.all Ge) (Ca s len ds))
 | none=>(.lit n len,.var e cells)
def kW (P:Program) (n:Nat) (t:TypeId) (len:Nat) (ps:List (Nat×V)):Option (V×Ag) :=
 match Bt P t with
 | none=>none
 | some e=>match A6 P e with
   | none=>none
   | some z=>if len*z.length≤16777216∧len≤9223372036854775807 then (EB (fun i=>some (i*z.length,z.length)) (List.replicate len z).flatten ps).map (pL n e z.length len) else none
theorem X3 {n t len:Nat} {ps:List (Nat×V)}:gX P σ n t len ps=kW P n t len ps:=by
 unfold gX kW
 cases he:Bt P t with
 | none=>rfl
 | some e =>
   simp only
   cases hz:A6 P e with
   | none=>rfl
   | some z =>
     simp only;split
     · cases hf:EB (fun i=>some (i*z.length,z.length)) (List.replicate len z).flatten ps with
       | none=>rfl
       | some cells=>simp only[Option.map_some,pL];cases BG cells<;>rfl
     · rfl
def TR (P:Program) (b:Bool) (sl:List Ag) (t:TypeId) (len:Nat) (ps:List (Nat×V)):Option (Ag×List Nat) :=
 if b=true then
  match Bt P t with
  | none=>none
  | some e=>match A6 P e with
    | none=>none
    | some z=>if len*z.length≤16777216∧len≤9223372036854775807 then (EB (fun i=>some (i*z.length,z.length)) (List.replicate len z).flatten ps).bind (Tf e z.length len sl) else none
 else none
theorem ZD {b:Bool} {sl:List Ag} {t len:Nat} {ps:List (Nat×V)}:JP P b sl t len ps=TR P b sl t len ps:=by
 unfold JP TR
 cases b with
 | false=>rfl
 | true =>
   simp only[if_true]
   cases he:Bt P t with
   | none=>rfl
   | some e =>
     simp only
     cases hz:A6 P e with
     | none=>rfl
     | some z =>
       simp only;split
       · cases hf:EB (fun i=>some (i*z.length,z.length)) (List.replicate len z).flatten ps<;>rfl
       · rfl
def UE (P:Program) (m:Mode) (ops:Array Oper) (K:St→Prop) (rest:List Oper) (σ:St) (d:Option Tmp) (q:Option (Ag×List Nat)) (v:Option (V×Ag)):Prop :=
 match q with
 | some (y,ks)=>Bb P m ops K rest (St.put ⟨σ.tmps,kill ks σ.slots++[y]⟩ d (.ref σ.slots.length))
 | none=>fJ P m ops K rest σ d v
theorem XF {y:Ag} {ks:List Nat} {v:Option (V×Ag)}:UE P m ops K rest σ d (some (y,ks)) v=Bb P m ops K rest (St.put ⟨σ.tmps,kill ks σ.slots++[y]⟩ d (.ref σ.slots.length)):=rfl
theorem XO {v:Option (V×Ag)}:UE P m ops K rest σ d none v=fJ P m ops K rest σ d v:=rfl
@[congr] theorem nX {q q':Option (Ag×List Nat)} {v:Option (V×Ag)} (h:q=q'):UE P m ops K rest σ d q v=UE P m ops K rest σ d q' v:=by rw[h]
theorem Qc {ps:Array (Nat×Operand)}:Bb P m ops K (⟨d,.buildSlice t n ps,ty,pos,af,none⟩::rest) σ=UE P m ops K rest σ d (TR P (m.tc&&!m.st) σ.slots t n (ps.toList.map fun p=>(p.1,σ.eval p.2))) (kW P σ.slots.length t n (ps.toList.map fun p=>(p.1,σ.eval p.2))):=by
 rw[Gf];unfold VT;simp only;rw[ZD];split
 · rename_i hq;rw[hq];rfl
 · rename_i hq;rw[hq];apply propext;constructor
   · rintro⟨x,news,⟨y,h1,rfl⟩,h2⟩;exact⟨x,y,X3 (σ:=σ)▸h1,h2⟩
   · rintro⟨x,y,h1,h2⟩;exact⟨_,_,⟨y,by rw[X3];exact h1,rfl⟩,h2⟩
def Yw (P:Program) (t:TypeId) (x y:V):Option (Int×Int×TypeId×List D) :=
 match Bt P t,GO x,GO y with
 | some e,some m,some m'=>match A6 P e with
   | some z=>match BG z with
     | some zd=>if z.all Ge=true∧P.bytesOf e≤128 then some (m,m',e,zd) else none
     | none=>none
   | none=>none
 | _,_,_=>none
def oI (P:Program) (m:Mode) (ops:Array Oper) (K:St→Prop) (rest:List Oper) (σ:St) (d:Option Tmp) (v:Option (Int×Int×TypeId×List D)):Prop:=∃ q e zd,v=some (q,q,e,zd)∧(0≤q∧q≤1099511627776)∧Bb P m ops K rest (St.put ⟨σ.tmps,σ.slots++[.arr e true (List.replicate q.toNat zd)]⟩ d (.ref σ.slots.length))
theorem WS {q:Int} {e:TypeId} {zd:List D}:oI P m ops K rest σ d (some (q,q,e,zd))=((0≤q∧q≤1099511627776)∧Bb P m ops K rest (St.put ⟨σ.tmps,σ.slots++[.arr e true (List.replicate q.toNat zd)]⟩ d (.ref σ.slots.length))):=by
 apply propext;constructor
 · rintro⟨q,e,zd,h,hk⟩;cases h;exact hk
 · exact fun h=>⟨q,e,zd,rfl,h⟩
theorem QX:Bb P m ops K (⟨d,.makeSlice t x y,ty,pos,af,none⟩::rest) σ=oI P m ops K rest σ d (Yw P t (σ.eval x) (σ.eval y)):=by
 rw[Gf];apply propext;constructor
 · rintro⟨x,news,⟨e,z,zd,q,h1,h2,h3,h4,h5,h6,h7,h8,h9,rfl,rfl⟩,h10⟩;refine⟨q,e,zd,?_,⟨h7,h8⟩,h10⟩;unfold Yw;rw[h1,h5,h6];simp only[h2,h3];rw[if_pos ⟨h4,h9⟩]
 · rintro⟨q,e,zd,h,⟨h7,h8⟩,h10⟩;unfold Yw at h;split at h
   · rename_i e' m1 m2 h1 h5 h6;split at h
     · rename_i z h2;split at h
       · rename_i zd' h3;split at h
         · rename_i h4
           cases h
           exact⟨_,_,⟨e,z,zd,q,h1,h2,h3,h4.1,h5,h6,h7,h8,h4.2,rfl,rfl⟩,h10⟩
         · cases h
       · cases h
     · cases h
   · cases h
def OG (P:Program) (m:Mode) (ops:Array Oper) (K:St→Prop) (o:Oper) (rest:List Oper) (σ:St) (dj:Nat) (b:Bool) (v:V):Prop :=
 match v with
 | .d (.bool t)=>J5 (t==b) (Bb P m ops K (o::rest) (σ.put (some dj) (.d (.bool b)))) (Bb P m ops K rest ((σ.put (some dj) (.d (.bool (!b)))).put o.dst (.tup [])))
 | .tup []=>Bb P m ops K rest (σ.put o.dst (.tup []))
 | _=>False
theorem Fw {o:Oper} {dj:Nat} {b t:Bool}:OG P m ops K o rest σ dj b (.d (.bool t))=U4 (t==b) (Bb P m ops K (o::rest) (σ.put (some dj) (.d (.bool b)))) (Bb P m ops K rest ((σ.put (some dj) (.d (.bool (!b)))).put o.dst (.tup []))):=rfl
theorem Sr {o:Oper} {dj:Nat} {b:Bool}:OG P m ops K o rest σ dj b (.tup [])=Bb P m ops K rest (σ.put o.dst (.tup [])):=rfl
def Xg (P:Program) (m:Mode) (ops:Array Oper) (K:St→Prop) (o:Oper) (rest:List Oper) (σ:St) (b:Bool) (dj:Option Nat):Prop :=
 match dj with
 | some d=>OG P m ops K o rest σ d b (σ.get d)
 | none=>False
theorem Fk {o:Oper} {dj:Nat} {b:Bool}:Xg P m ops K o rest σ b (some dj)=OG P m ops K o rest σ dj b (σ.get dj):=rfl
theorem Hd {op:Op} {j:Nat} {b:Bool}:Bb P m ops K (⟨d,op,ty,pos,af,some (j,b)⟩::rest) σ=Xg P m ops K ⟨d,op,ty,pos,af,none⟩ rest σ b ((ops[j]?).bind (·.dst)):=by
 have e:∀ σ',Bb P m ops K (⟨d,op,ty,pos,af,none⟩::rest) σ'=VT P m ⟨d,op,ty,pos,af,some (j,b)⟩ (Bb P m ops K rest) σ':=fun σ'=>rfl;unfold Xg
 conv=>lhs;unfold Bb
 simp only
 cases hd:(ops[j]?).bind (·.dst) with
 | none=>rfl
 | some dj =>
   simp only;unfold OG
   cases hv:σ.get dj with
   | d x=>cases x with
     | bool t =>
       simp only[J5,e]
       cases t<;>cases b<;>simp
     | _=>rfl
   | tup xs=>cases xs<;>rfl
   | _=>rfl
end
def UL {ι:Type} (m:Mode) (I:ι→Prop) (S:ι→St) (μ:ι→Nat) (i:ι) (σ':St):Prop:=∃ j,I j∧μ j<μ i∧Le m σ' (S j)
theorem mZ {c:Code} {ι:Type} (I:ι→Prop) (S:ι→St) (μ:ι→Nat) (i0:ι) (h0:I i0) (hle:Le m σ (S i0)) (hr:∀ i,I i→Ib P m c (HC (UL m I S μ i) Q) (S i)):Ib P m (.loop c) Q σ :=
 ⟨ι,I,S,μ,i0,h0,hle,hr⟩
end
def frame (n:Nat) (l:List (Nat×V)):List V:=l.foldl (fun T p=>T.set p.1 p.2) (List.replicate n .any)
theorem Af {x:Int} (h1:-9223372036854775808≤x) (h2:x≤9223372036854775807):IntKind.i64.wrap x=x:=by rw[IntKind.wrap_i64];omega
theorem kX (k:Nat):((k:Int)<0)=False:=by
 apply propext;constructor
 · intro h;omega
 · exact False.elim
def rng (n lo hi:Int):Bool:=decide (lo≤n)&&decide (n≤hi)
theorem Bh {α:Type} {xs:List α} {k:Nat} {x:α} (hx:xs[k]? = some x):xs.take (k+1)=xs.take k++[x]:=by
 obtain⟨hk,rfl⟩:=zz1.1 hx;exact List.take_succ_eq_append_getElem hk
theorem Fu {α:Type} {xs:List α} {p:α→Bool} {k:Nat} {x:α} (hx:xs[k]? = some x):(xs.take (k+1)).all p=((xs.take k).all p&&p x):=by
 rw[Bh hx];simp
theorem In {α:Type} {xs:List α} {p:α→Bool} {k:Nat} {x:α} (hx:xs[k]? = some x) (h:p x=false):xs.all p=false:=by
 rw[Bool.eq_false_iff,ne_eq,zz8];intro hh;have:=hh x (zz6 hx);rw[h] at this
 cases this
theorem VH {P:Program} {m:Mode} {Q:Exit→St→Prop} {σ:St} {c:Code} {ι:Type} (I:ι→Prop) (S:ι→St) (μ:ι→Nat) (i0:ι) (h0:I i0) (hle:Le m σ (S i0))
 (hr:∀ (I':ι→Prop) (S':ι→St) (μ':ι→Nat),(∀ i,I' i↔I i)→(∀ i,S' i=S i)→(∀ i,μ' i=μ i)→∀ i,I i→Ib P m c (HC (UL m I' S' μ' i) Q) (S i)):Ib P m (.loop c) Q σ :=
 mZ I S μ i0 h0 hle fun i hi=>hr I S μ (fun _=>Iff.rfl) (fun _=>rfl) (fun _=>rfl) i hi
theorem Ae {m:Mode} {ι:Type} {I I':ι→Prop} {S S':ι→St} {μ μ':ι→Nat} {i:ι} {σ':St} (hI:∀ i,I' i↔I i) (hS:∀ i,S' i=S i) (hμ:∀ i,μ' i=μ i) (j:ι) (h1:I j) (h2:μ j<μ i) (h3:Le m σ' (S j)):UL m I' S' μ' i σ' :=
 ⟨j,(hI j).2 h1,by rw[hμ,hμ];exact h2,by rw[hS];exact h3⟩
def Jl:List Bool→List V→List V
 | true::ms,x::xs=>x::Jl ms xs
 | false::ms,_::xs=>.any::Jl ms xs
 | [],_::xs=>.any::Jl [] xs
 | _,[]=>[]
def sets {α:Type} (xs:List α):List (Nat×α)→List α
 | []=>xs
 | p::ps=>sets (xs.set p.1 p.2) ps
theorem AY {P:Program} {m:Mode} {Q:Exit→St→Prop} {c:Code} {T:List V} {sl0:List Ag} {ι:Type} (mask:List Bool) (I:ι→Prop) (upd:ι→List (Nat×V)) (usl:ι→List (Nat×Ag)) (μ:ι→Nat) (i0:ι) (h0:I i0)
 (hle:Le m ⟨T,sl0⟩ ⟨sets (Jl mask T) (upd i0),sets sl0 (usl i0)⟩)
 (hr:∀ (I':ι→Prop) (S':ι→St) (μ':ι→Nat),(∀ i,I' i↔I i)→(∀ i,S' i=⟨sets (Jl mask T) (upd i),sets sl0 (usl i)⟩)→(∀ i,μ' i=μ i)→∀ i,I i→Ib P m c (HC (UL m I' S' μ' i) Q) ⟨sets (Jl mask T) (upd i),sets sl0 (usl i)⟩):Ib P m (.loop c) Q ⟨T,sl0⟩ :=
 VH I (fun i=>⟨sets (Jl mask T) (upd i),sets sl0 (usl i)⟩) μ i0 h0 hle hr
def DB (a b:Int):Int:=a.fdiv (2 ^ min b.toNat 64)
def IF (a b:Int):Int:=IntKind.i64.wrap (a*2 ^ min b.toNat 64)
def Cp (a b:Int):Int:=IntKind.i64.wrap (BitVec.ofInt 64 a &&& BitVec.ofInt 64 b).toNat
def dZ (a b:Int):Int:=IntKind.i64.wrap (BitVec.ofInt 64 a ||| BitVec.ofInt 64 b).toNat
def Bd (a b:Int):Int:=IntKind.i64.wrap (BitVec.ofInt 64 a ^^^ BitVec.ofInt 64 b).toNat
def DJ (a b:Int):Int:=IntKind.i64.wrap (BitVec.ofInt 64 a &&& ~~~BitVec.ofInt 64 b).toNat
section
variable {P:Program} {t:TypeId} {k k':IntKind} {a b:Int} {x y:Bool}
theorem gV:Db P t .add (.d (.int k a)) (.d (.int k b))=some (.d (.int k (k.wrap (a+b)))):=by simp[Db]
theorem VF:Db P t .sub (.d (.int k a)) (.d (.int k b))=some (.d (.int k (k.wrap (a - b)))):=by simp[Db]
theorem eE:Db P t .mul (.d (.int k a)) (.d (.int k b))=some (.d (.int k (k.wrap (a*b)))):=by simp[Db]
theorem cN:Db P t .quo (.d (.int k a)) (.d (.int k b))=if b=0 then none else some (.d (.int k (k.wrap (a.tdiv b)))):=by simp[Db]
theorem jS:Db P t .rem (.d (.int k a)) (.d (.int k b))=if b=0 then none else some (.d (.int k (a.tmod b))):=by simp[Db]
theorem jT:Db P t .and (.d (.int .i64 a)) (.d (.int .i64 b))=some (.d (.int .i64 (Cp a b))):=rfl
theorem mU:Db P t .or (.d (.int .i64 a)) (.d (.int .i64 b))=some (.d (.int .i64 (dZ a b))):=rfl
theorem iU:Db P t .xor (.d (.int .i64 a)) (.d (.int .i64 b))=some (.d (.int .i64 (Bd a b))):=rfl
theorem UO:Db P t .andNot (.d (.int .i64 a)) (.d (.int .i64 b))=some (.d (.int .i64 (DJ a b))):=rfl
theorem UK:Db P t .shl (.d (.int .i64 a)) (.d (.int k b))=if 0≤b then some (.d (.int .i64 (IF a b))) else none:=by simp[Db,IF,IntKind.bits]
theorem gW:Db P t .shr (.d (.int .i64 a)) (.d (.int k b))=if 0≤b then some (.d (.int .i64 (DB a b))) else none:=by simp[Db,DB,IntKind.bits]
theorem Ro:Db P t .shl (.d (.int .u64 a)) (.d (.int k b))=if 0≤b then some (.d (.int .u64 (IntKind.u64.wrap (a*2 ^ min b.toNat 64)))) else none:=by simp[Db,IntKind.bits]
theorem L9:Db P t .eql (.d (.int k a)) (.d (.int k b))=some (.d (.bool (a==b))):=by simp[Db]
theorem mS {sl:List Ag} {op:BinOp} {x:V} {y:D}:GS P sl t op x (.d y)=Db P t op x (.d y):=rfl
theorem Zi {sl:List Ag} {op:BinOp} {x:V} {ys:List V}:GS P sl t op x (.agg ys)=Db P t op x (.agg ys):=rfl
theorem cY {a c:Int} {b d:Bool} (h:Vx P t=true):Db P t .eql (.agg [.d (.int .i64 a),.d (.bool b)]) (.agg [.d (.int .i64 c),.d (.bool d)])=some (.d (.bool (a==c&&b==d))):=by simp[Db,h]
theorem jK {a b c d:Int} (h:GQ P t=true):Db P t .eql (.agg [.d (.int .i64 a),.d (.int .i64 b)]) (.agg [.d (.int .i64 c),.d (.int .i64 d)])=some (.d (.bool (a==c&&b==d))):=by simp[Db,h]
theorem iA {a b c d:Int} (h:GQ P t=true):Db P t .neq (.agg [.d (.int .i64 a),.d (.int .i64 b)]) (.agg [.d (.int .i64 c),.d (.int .i64 d)])=some (.d (.bool (!(a==c&&b==d)))):=by simp[Db,h]
theorem iN:Db P t .neq (.d (.int k a)) (.d (.int k b))=some (.d (.bool (a != b))):=by simp[Db]
theorem jV:Db P t .lss (.d (.int k a)) (.d (.int k b))=some (.d (.bool (decide (a<b)))):=by simp[Db]
theorem Ud:Db P t .leq (.d (.int k a)) (.d (.int k b))=some (.d (.bool (decide (a≤b)))):=by simp[Db]
theorem jR:Db P t .gtr (.d (.int k a)) (.d (.int k b))=some (.d (.bool (decide (a > b)))):=by simp[Db]
theorem UD:Db P t .geq (.d (.int k a)) (.d (.int k b))=some (.d (.bool (decide (a≥b)))):=by simp[Db]
theorem aH (h:P.underlying t=some .bool):Db P t .eql (.d (.bool x)) (.d (.bool y))=some (.d (.bool (x==y))):=by simp[Db,h]
theorem Zd (h:P.underlying t=some .bool):Db P t .neq (.d (.bool x)) (.d (.bool y))=some (.d (.bool (!(x==y)))):=by simp[Db,h]
end
section
variable {P:Program} {m:Mode} {ops:Array Oper} {K:St→Prop} {rest:List Oper} {σ:St} {d:Option Tmp} {t e:TypeId} {dr:Bool}
theorem aA {sl:List Ag} {x y:V} {K:V→List Ag→Prop} {ow:Bool} {es es2:List (List D)} {ks:List Nat} {o:Option Nat} (he:Bt P t=some e) (hb:H0 sl e x=some (ow,es,ks)) (hz:(A6 P e).isSome=true∧P.cellsOf e≠0∧P.bytesOf e≤128)
 (hs:QE sl y=some (es2,o)) (ho:∀ s,o=some s→s∉ks) (hc:∀ c∈es2,c.length=P.cellsOf e) (hl:es.length+es2.length≤1099511627776) (hf:ow=true→Bp es2) (hK:K (.ref sl.length) (kill ks sl++[.arr e ow (es++es2)])):Lz P sl t x y K :=
 ⟨e,ow,es,ks,he,hb,hz.1,hz.2.1,hz.2.2,.inl ⟨es2,o,hs,ho,hc,hl,hf,hK⟩⟩
theorem Aw {x y:V} {ow:Bool} {es es2:List (List D)} {ks:List Nat} {o:Option Nat} {n:Nat} {b:Bool} (he:Bt P t=some e) (hb:H0 σ.slots e x=some (ow,es,ks)) (hz:(A6 P e).isSome=true∧P.cellsOf e≠0∧P.bytesOf e≤128)
 (hs:QE σ.slots y=some (es2,o)) (ho:∀ s,o=some s→s∉ks) (hc:∀ c∈es2,c.length=P.cellsOf e) (hl:es.length+es2.length≤1099511627776) (hf:ow=true→Bp es2)
 (hK:Bb P ⟨n,false,b,dr⟩ ops K rest (St.put ⟨σ.tmps,kill ks σ.slots++[.arr e ow (es++es2)]⟩ d (.ref σ.slots.length))):jB P ⟨n,false,b,dr⟩ ops K rest σ d t x y :=
 .inl ⟨rfl,.inl (aA he hb hz hs ho hc hl hf hK)⟩
theorem BT {x:V} {es:List (List D)} {ks:List Nat} {n:Nat} {b:Bool} {s2 q:Nat} {cells:List V} {ds:List D} {ks2:List Nat} (he:Bt P t=some e) (hb:H0 σ.slots e x=some (true,es,ks)) (hz:(A6 P e).isSome=true∧P.cellsOf e≠0∧P.bytesOf e≤128)
 (hs:σ.slots[s2]? = some (.var e cells)) (ht:CT σ.slots cells=some (ds,ks2)) (hd:∀ k∈ks2,k∉ks) (hc:cells.length=q*P.cellsOf e) (hl:es.length+q≤1099511627776)
 (hK:Bb P ⟨n,false,b,dr⟩ ops K rest (St.put ⟨σ.tmps,kill (s2::(ks++ks2)) σ.slots++[.arr e true (es++Ca (P.cellsOf e) q ds)]⟩ d (.ref σ.slots.length))):jB P ⟨n,false,b,dr⟩ ops K rest σ d t x (.lit s2 q) :=
 .inl ⟨rfl,.inl ⟨e,true,es,ks,he,hb,hz.1,hz.2.1,hz.2.2,.inr (.inr (.inl ⟨s2,q,cells,ds,ks2,rfl,hs,ht,hd,hc,rfl,hl,hK⟩))⟩⟩
theorem BU {x:V} {es es2:List (List D)} {ks:List Nat} {n:Nat} {b:Bool} {s2:Nat} (he:Bt P t=some e) (hb:H0 σ.slots e x=some (true,es,ks)) (hz:(A6 P e).isSome=true∧P.cellsOf e≠0∧P.bytesOf e≤128)
 (hs:σ.slots[s2]? = some (.arr e true es2)) (hd:s2∉ks) (hl:es.length+es2.length≤1099511627776)
 (hK:Bb P ⟨n,false,b,dr⟩ ops K rest (St.put ⟨σ.tmps,kill (s2::ks) σ.slots++[.arr e true (es++es2)]⟩ d (.ref σ.slots.length))):jB P ⟨n,false,b,dr⟩ ops K rest σ d t x (.ref s2) :=
 .inl ⟨rfl,.inl ⟨e,true,es,ks,he,hb,hz.1,hz.2.1,hz.2.2,.inr (.inl ⟨s2,es2,rfl,hs,hd,rfl,hl,hK⟩)⟩⟩
theorem C6 {x y:V} {ow:Bool} {es es2:List (List D)} {ks ks2:List Nat} {n:Nat} {b:Bool} {t':TypeId} (hfz:HM P σ.slots y=some (.sl t' es2,ks2)) (he:Bt P t=some e) (hb:H0 (kill ks2 σ.slots) e x=some (ow,es,ks)) (hz:(A6 P e).isSome=true∧P.cellsOf e≠0∧P.bytesOf e≤128)
 (hc:∀ c∈es2,c.length=P.cellsOf e) (hl:es.length+es2.length≤1099511627776)
 (hK:Bb P ⟨n,false,b,dr⟩ ops K rest (St.put ⟨σ.tmps,kill ks (kill ks2 σ.slots)++[.arr e false (es++es2)]⟩ d (.ref (kill ks2 σ.slots).length))):jB P ⟨n,false,b,dr⟩ ops K rest σ d t x y :=
 .inl ⟨rfl,.inr ⟨_,ks2,hfz,e,ow,es,ks,he,hb,hz.1,hz.2.1,hz.2.2,.inr (.inr (.inr ⟨es2,none,rfl,by simp,hc,hl,hK⟩))⟩⟩
end
inductive T9:D→Prop
 | int (k:IntKind) (x:Int) (h:(Lit.int k x).wf=true):T9 (.int k x)
 | bool (b:Bool):T9 (.bool b)
 | sl (t:TypeId) (es:List (List D)) (h:∀ e∈es,∀ d∈e,T9 d):T9 (.sl t es)
theorem T9.i64 {x:Int} (h:T9 (.int .i64 x)):-9223372036854775808≤x∧x≤9223372036854775807:=by
 cases h with
 | int _ _ h =>
   have h2:(decide (IntKind.i64.min≤x)&&decide (x≤IntKind.i64.max))=true:=h;have a:IntKind.i64.min=-9223372036854775808:=by decide
   have b:IntKind.i64.max=9223372036854775807:=by decide
   rw[a,b] at h2;simpa using h2
def rV {α:Type} (P:Program) (en:α→D) (t:TypeId):Prop :=
 ∀ {H:Type} {enc:TypeId×Value→H} {W:World} {B fuel:Nat} {cs:List Value} {x:DataW H×List MemPlace},
   DataW.trod enc P W 0 (fun _=>true) true fuel t cs=some x→(∀ p∈x.2,p.block<B)→∃ (d:α) (v:Value),cs=[v]∧Rd W (·<B) (en d) v∧T9 (en d)
def OpE {α:Type} (P:Program) (en:α→List D) (t:TypeId):Prop :=
 ∀ {H:Type} {enc:TypeId×Value→H} {W:World} {B fuel:Nat} {cs:List Value} {x:DataW H×List MemPlace},
   DataW.trod enc P W 0 (fun _=>true) true fuel t cs=some x→(∀ p∈x.2,p.block<B)→∃ d:α,Rds W (·<B) (en d) cs []∧∀ q∈en d,T9 q
def Az (x:Int):D:=.int .i64 x
def EV (x:Bool):D:=.bool x
def B3 {α:Type} (e:TypeId) (en:α→List D) (xs:List α):D:=.sl e (xs.map en)
def e1 {α:Type} (en:α→D) (x:α):List D:=[en x]
def e2 {α β:Type} (a:α→D) (b:β→D) (x:α×β):List D:=[a x.1,b x.2]
def e3 {α β γ:Type} (a:α→D) (b:β→D) (c:γ→D) (x:α×β×γ):List D:=[a x.1,b x.2.1,c x.2.2]
def e4 {α β γ δ:Type} (a:α→D) (b:β→D) (c:γ→D) (d:δ→D) (x:α×β×γ×δ):List D:=[a x.1,b x.2.1,c x.2.2.1,d x.2.2.2]
section
variable {P:Program} {t:TypeId}
theorem uY {α:Type} {en:α→D} (h:rV P en t):OpE P (e1 en) t:=fun h1 h2=>by
 obtain⟨d,v,rfl,hr,ho⟩:=h h1 h2;refine⟨d,⟨rfl,rfl,fun i x hx=>?_⟩,by simpa [e1] using ho⟩
 match i with
 | 0=>simp[e1] at hx;subst hx;exact⟨v,rfl,hr⟩
 | i+1=>simp[e1] at hx
theorem X2 {w:World} {a:Addr} {u:Value} (h:w.cell? a=some u):a.spot=none:=by
 unfold World.cell? at h;split at h
 · split at h
   · cases h
   · rename_i hs
     cases hp:a.spot with
     | none=>rfl
     | some q=>rw[hp] at hs;simp at hs
 · cases h
theorem pX {α:Type} {en:α→List D} {e:TypeId} (ht:P.underlying t=some (.slice e)) (hpos:0<P.cellsOf e) (hE:∀ x,(en x).length=P.cellsOf e) (hT:OpE P en e):rV P (B3 e en) t:=by
 intro H enc W B fuel cs x h hlt;rcases open_slice ht h with ⟨rfl,rfl⟩|⟨a,len,cap,m,n,D,Pl,rfl,hb,hl,hm,hmm,hx,hi⟩
 · exact⟨[],_,rfl,.nil _ _ _,.sl _ _ (by simp)⟩
 · have hm':m=cap:=hmm;subst hm';have hlen63:len≤9223372036854775807:=by simp only[maxLen] at hm;omega
   have hpl:∀ i,i<m→∀ p∈Pl i,p.block<B:=by
    intro i him p hp;refine hlt p ?_;rw[hx];simp only[ACE,List.mem_flatMap,ACJ];exact .inr ⟨i,him,hp⟩
   have helem:∀ i,i<len→∃ y:α×List Value,W.cells? 0 (a.add (i*P.cellsOf e)) (P.cellsOf e)=some y.2∧Rds W (·<B) (en y.1) y.2 []∧∀ q∈en y.1,T9 q:=by
    intro i hil;obtain⟨cs',hc,ht'⟩:=hi i (by omega);obtain⟨d,hd⟩:=hT ht' (fun p hp=>hpl i (by omega) p hp);exact⟨(d,cs'),hc,hd⟩
   by_cases h0:len=0
   · subst h0;exact⟨[],_,rfl,.nil _ _ _,.sl _ _ (by simp)⟩
   have hn':0<len:=by omega
   obtain⟨y0,hy0⟩:=helem 0 hn'
   have hall:∀ i,∃ y:α×List Value,i<len→W.cells? 0 (a.add (i*P.cellsOf e)) (P.cellsOf e)=some y.2∧Rds W (·<B) (en y.1) y.2 []∧∀ q∈en y.1,T9 q:=by
    intro i;by_cases hil:i<len
    · obtain⟨y,hy⟩:=helem i hil;exact⟨y,fun _=>hy⟩
    · exact⟨y0,fun h=>absurd h hil⟩
   obtain⟨f,hf⟩:=Classical.skolem.1 hall
   have hblk:a.block<B:=by
    have:MemPlace.cell a.block a.off∈x.2:=by
     rw[hx];simp only[ACE];left;rw[MemPlace.row];simp only[ACP,ACJ];exact⟨0,Nat.mul_pos (by omega) hpos,by simp⟩
    exact hlt _ this
   have hspot:a.spot=none:=by
    obtain⟨_,hcl,hat⟩:=World.cells?_some hy0.1;have h0:=hat 0 hpos;have hcl':0<y0.2.length:=by rw[hcl];exact hpos
    rw[zz0 hcl'] at h0;have:=X2 h0;simpa [Addr.add] using this
   obtain⟨b,o,sp⟩:=a;simp only at hspot;subst hspot
   have hr:=Rd.sl (w:=W) (G:=(·<B)) e ((List.range len).map fun i=>en (f i).1) b o m (P.cellsOf e) (fun i j=>((f i).2[j]?).getD (.bool false)) (by simpa using hlen63) (by simpa using hl) hblk
    (fun x hx=>by simp only[ACP,ACJ] at hx;obtain⟨i,_,rfl⟩:=hx;exact hE _)
    (fun i y j d hy hd=>by
      rw[ACF,Option.map_eq_some_iff] at hy;obtain⟨i',hi',rfl⟩:=hy
      have hil:i<len:=by
       have:=(zz1.1 hi').1;simpa using this
      rw[ACa hil] at hi';obtain rfl:=ACW hi';obtain⟨h1,h2,h3⟩:=hf i hil;obtain⟨_,hcl,hat⟩:=World.cells?_some h1;have hj:j<P.cellsOf e:=by rw[←hE (f i).1];exact (zz1.1 hd).1
      have:=hat j hj;have hj2:j<(f i).2.length:=by rw[hcl];exact hj
      rw[zz0 hj2] at this ⊢
      have ee:((⟨b,o,none⟩:Addr).add (i*P.cellsOf e)).add j=⟨b,o+i*P.cellsOf e+j,none⟩:=by
       rw[Go.Deep.add_add];unfold Addr.add;split
       · rename_i h0;rw[Nat.add_assoc,h0,Nat.add_zero]
       · rw[Nat.add_assoc]
      rw[ee] at this
      simpa using this)
    (fun i y j d hy hd=>by
      rw[ACF,Option.map_eq_some_iff] at hy;obtain⟨i',hi',rfl⟩:=hy
      have hil:i<len:=by
       have:=(zz1.1 hi').1;simpa using this
      rw[ACa hil] at hi';obtain rfl:=ACW hi';obtain⟨h1,h2,h3⟩:=hf i hil;obtain⟨v,hv,hr⟩:=h2.2.2 j d hd;rw[hv]
      exact hr)
   refine⟨(List.range len).map fun i=>(f i).1,_,rfl,?_⟩;have el:((List.range len).map fun i=>en (f i).1).length=len:=by simp
   rw[el] at hr;have em:B3 e en ((List.range len).map fun i=>(f i).1)=.sl e ((List.range len).map fun i=>en (f i).1):=by simp[B3,Function.comp_def]
   rw[em];refine⟨hr,.sl _ _ fun e he q hq=>?_⟩;simp only[ACP,ACJ] at he;obtain⟨i,hi,rfl⟩:=he;exact (hf i hi).2.2 q hq
section
variable {α:Type} {H:Type} {enc:TypeId×Value→H} {W:World} {base:Nat} {v:Value} {d:DataW H} {p:List MemPlace}
theorem cM {en:α→D} {e:TypeId} (ht:P.underlying t=some (.slice e)) (hO:rV P en t) (hv:Value.okWide P W .any base t v) (h:DataW.Trod enc P W 0 (fun _=>true) true t v d p) (hlt:∀ x∈p,x.block<W.heap.size):∃ x:α,Rd W (·<W.heap.size) (en x) v∧T9 (en x):=by
 obtain⟨a0,len,cap,rfl⟩:=okWide_slice ht hv;obtain⟨fuel,hf⟩:=h;obtain⟨x,v,e1,h2⟩:=hO hf hlt;have e1':[Value.slice a0 len cap]=[v]:=e1
 cases e1'
 exact⟨x,h2⟩
theorem fF {en:α→D} {e:TypeId} (ht:P.underlying t=some (.slice e)) (hO:rV P en t) (hv:Value.okWide P W .any base t v) (h:DataW.Trod enc P W 0 (fun _=>true) true t v d p) (hlt:∀ x∈p,x.block<W.heap.size):∃ x:α,Rd W (·<W.heap.size) (en x) v:=by
 obtain⟨x,h,_⟩:=cM ht hO hv h hlt;exact⟨x,h⟩
end
theorem nF {f:FuncId} {xs:List X} (h:CI P f xs (.d (.bool true))) {w:World} {vs:Array Value} (hl:vs.size=xs.length) (hr:∀ (i:Nat) (x:X) (v:Value),xs[i]? = some x→vs[i]? = some v→fH w (·<w.heap.size) x v) :
 Calls P f vs w fun e w'=>e=.returned (.bool true)∧Below w.heap.size w w':=by
 refine (h.2 w vs.toList (by simpa using hl) (fun i x v hx hv=>hr i x v hx (by simpa using hv))).mono ?_;rintro e w' ⟨v,F,rfl,hres,-,-,hb⟩;refine⟨?_,hb⟩
 cases hres with
 | one hx=>cases hx with
   | d ho =>
     obtain⟨v',hv',hr'⟩:=ho.rd (G:=fun _=>True) (fun _ _=>trivial) 0 _ rfl;simp at hv';subst hv'
     cases hr'
     rfl
end
end Go.Proofs.Ytnjedabjbeipeaa
