/-
  Facts on the program's types, for abstract walks.
  Conditions: none.
-/
import Derived.Test.YtnjedabjbeipeaaV4
import Derived.Lib.Hide
/-
  Facts on the program's types, for abstract walks.
  Conditions: none.
-/
namespace Go.Proofs.Ytnjedabjbeipeaa
open Go.RowKit Go.ChangeShapes Go.WideShapes
@[simp] theorem vt_un_2:(Try.prog.underlying 2).isSome=true:=by kernel_rfl
@[simp] theorem vt_ag_2:aggT Try.prog 2=false:=by kernel_rfl
@[simp] theorem vt_ce_2:Try.prog.cellsOf 2=1:=by kernel_rfl
@[simp] theorem vt_by_2:Try.prog.bytesOf 2=8:=by kernel_rfl
@[simp] theorem vt_ze_2:zeroV Try.prog 2=some [.d (.int .i64 0)]:=by kernel_rfl
@[simp] theorem vt_ud_2:Try.prog.underlying 2=some (.int .i64):=by kernel_rfl
@[simp] theorem vt_un_3:(Try.prog.underlying 3).isSome=true:=by kernel_rfl
@[simp] theorem vt_ag_3:aggT Try.prog 3=false:=by kernel_rfl
@[simp] theorem vt_ce_3:Try.prog.cellsOf 3=1:=by kernel_rfl
@[simp] theorem vt_by_3:Try.prog.bytesOf 3=8:=by kernel_rfl
@[simp] theorem vt_ze_3:zeroV Try.prog 3=some [.d (.int .i64 0)]:=by kernel_rfl
@[simp] theorem vt_ud_3:Try.prog.underlying 3=some (.int .i64):=by kernel_rfl
@[simp] theorem vt_un_4:(Try.prog.underlying 4).isSome=true:=by kernel_rfl
@[simp] theorem vt_ag_4:aggT Try.prog 4=false:=by kernel_rfl
@[simp] theorem vt_ce_4:Try.prog.cellsOf 4=1:=by kernel_rfl
@[simp] theorem vt_by_4:Try.prog.bytesOf 4=1:=by kernel_rfl
@[simp] theorem vt_ze_4:zeroV Try.prog 4=some [.d (.bool false)]:=by kernel_rfl
@[simp] theorem vt_ud_4:Try.prog.underlying 4=some .bool:=by kernel_rfl
@[simp] theorem vt_un_5:(Try.prog.underlying 5).isSome=true:=by kernel_rfl
@[simp] theorem vt_ag_5:aggT Try.prog 5=false:=by kernel_rfl
@[simp] theorem vt_ce_5:Try.prog.cellsOf 5=1:=by kernel_rfl
@[simp] theorem vt_by_5:Try.prog.bytesOf 5=1:=by kernel_rfl
@[simp] theorem vt_ze_5:zeroV Try.prog 5=some [.d (.int .u8 0)]:=by kernel_rfl
@[simp] theorem vt_ud_5:Try.prog.underlying 5=some (.int .u8):=by kernel_rfl
@[simp] theorem vt_un_6:(Try.prog.underlying 6).isSome=true:=by kernel_rfl
@[simp] theorem vt_ag_6:aggT Try.prog 6=false:=by kernel_rfl
@[simp] theorem vt_ce_6:Try.prog.cellsOf 6=1:=by kernel_rfl
@[simp] theorem vt_by_6:Try.prog.bytesOf 6=1:=by kernel_rfl
@[simp] theorem vt_ze_6:zeroV Try.prog 6=some [.d (.int .u8 0)]:=by kernel_rfl
@[simp] theorem vt_ud_6:Try.prog.underlying 6=some (.int .u8):=by kernel_rfl
@[simp] theorem vt_un_7:(Try.prog.underlying 7).isSome=true:=by kernel_rfl
@[simp] theorem vt_ag_7:aggT Try.prog 7=true:=by kernel_rfl
@[simp] theorem vt_ce_7:Try.prog.cellsOf 7=4:=by kernel_rfl
@[simp] theorem vt_by_7:Try.prog.bytesOf 7=24:=by kernel_rfl
@[simp] theorem vt_fo0_7:fieldOf Try.prog 7 0=some (0,2):=by kernel_rfl
@[simp] theorem vt_fo1_7:fieldOf Try.prog 7 1=some (1,3):=by kernel_rfl
@[simp] theorem vt_fo2_7:fieldOf Try.prog 7 2=some (2,4):=by kernel_rfl
@[simp] theorem vt_fo3_7:fieldOf Try.prog 7 3=some (3,6):=by kernel_rfl
@[simp] theorem vt_ze_7:zeroV Try.prog 7=some [.d (.int .i64 0),.d (.int .i64 0),.d (.bool false),.d (.int .u8 0)]:=by kernel_rfl
@[simp] theorem vt_un_8:(Try.prog.underlying 8).isSome=true:=by kernel_rfl
@[simp] theorem vt_ag_8:aggT Try.prog 8=true:=by kernel_rfl
@[simp] theorem vt_ce_8:Try.prog.cellsOf 8=4:=by kernel_rfl
@[simp] theorem vt_by_8:Try.prog.bytesOf 8=24:=by kernel_rfl
@[simp] theorem vt_fo0_8:fieldOf Try.prog 8 0=some (0,2):=by kernel_rfl
@[simp] theorem vt_fo1_8:fieldOf Try.prog 8 1=some (1,3):=by kernel_rfl
@[simp] theorem vt_fo2_8:fieldOf Try.prog 8 2=some (2,4):=by kernel_rfl
@[simp] theorem vt_fo3_8:fieldOf Try.prog 8 3=some (3,6):=by kernel_rfl
@[simp] theorem vt_ze_8:zeroV Try.prog 8=some [.d (.int .i64 0),.d (.int .i64 0),.d (.bool false),.d (.int .u8 0)]:=by kernel_rfl
@[simp] theorem vt_un_12:(Try.prog.underlying 12).isSome=true:=by kernel_rfl
@[simp] theorem vt_ag_12:aggT Try.prog 12=false:=by kernel_rfl
@[simp] theorem vt_ce_12:Try.prog.cellsOf 12=1:=by kernel_rfl
@[simp] theorem vt_by_12:Try.prog.bytesOf 12=8:=by kernel_rfl
@[simp] theorem vt_ze_12:zeroV Try.prog 12=some [.d (.int .u64 0)]:=by kernel_rfl
@[simp] theorem vt_ud_12:Try.prog.underlying 12=some (.int .u64):=by kernel_rfl
@[simp] theorem vt_un_21:(Try.prog.underlying 21).isSome=true:=by kernel_rfl
@[simp] theorem vt_ag_21:aggT Try.prog 21=false:=by kernel_rfl
@[simp] theorem vt_ce_21:Try.prog.cellsOf 21=1:=by kernel_rfl
@[simp] theorem vt_by_21:Try.prog.bytesOf 21=4:=by kernel_rfl
@[simp] theorem vt_ze_21:zeroV Try.prog 21=some [.d (.int .i32 0)]:=by kernel_rfl
@[simp] theorem vt_ud_21:Try.prog.underlying 21=some (.int .i32):=by kernel_rfl
@[simp] theorem vt_un_22:(Try.prog.underlying 22).isSome=true:=by kernel_rfl
@[simp] theorem vt_ag_22:aggT Try.prog 22=false:=by kernel_rfl
@[simp] theorem vt_ce_22:Try.prog.cellsOf 22=1:=by kernel_rfl
@[simp] theorem vt_by_22:Try.prog.bytesOf 22=24:=by kernel_rfl
@[simp] theorem vt_el_22:elemOf Try.prog 22=some 5:=by kernel_rfl
@[simp] theorem vt_ze_22:zeroV Try.prog 22=some [.nil 5]:=by kernel_rfl
@[simp] theorem vt_un_24:(Try.prog.underlying 24).isSome=true:=by kernel_rfl
@[simp] theorem vt_ag_24:aggT Try.prog 24=false:=by kernel_rfl
@[simp] theorem vt_ce_24:Try.prog.cellsOf 24=1:=by kernel_rfl
@[simp] theorem vt_by_24:Try.prog.bytesOf 24=24:=by kernel_rfl
@[simp] theorem vt_el_24:elemOf Try.prog 24=some 31:=by kernel_rfl
@[simp] theorem vt_ze_24:zeroV Try.prog 24=some [.nil 31]:=by kernel_rfl
@[simp] theorem vt_un_25:(Try.prog.underlying 25).isSome=true:=by kernel_rfl
@[simp] theorem vt_ag_25:aggT Try.prog 25=false:=by kernel_rfl
@[simp] theorem vt_ce_25:Try.prog.cellsOf 25=1:=by kernel_rfl
@[simp] theorem vt_by_25:Try.prog.bytesOf 25=24:=by kernel_rfl
@[simp] theorem vt_el_25:elemOf Try.prog 25=some 60:=by kernel_rfl
@[simp] theorem vt_ze_25:zeroV Try.prog 25=some [.nil 60]:=by kernel_rfl
@[simp] theorem vt_un_26:(Try.prog.underlying 26).isSome=true:=by kernel_rfl
@[simp] theorem vt_ag_26:aggT Try.prog 26=false:=by kernel_rfl
@[simp] theorem vt_ce_26:Try.prog.cellsOf 26=1:=by kernel_rfl
@[simp] theorem vt_by_26:Try.prog.bytesOf 26=24:=by kernel_rfl
@[simp] theorem vt_el_26:elemOf Try.prog 26=some 3:=by kernel_rfl
@[simp] theorem vt_ze_26:zeroV Try.prog 26=some [.nil 3]:=by kernel_rfl
@[simp] theorem vt_un_27:(Try.prog.underlying 27).isSome=true:=by kernel_rfl
@[simp] theorem vt_ag_27:aggT Try.prog 27=true:=by kernel_rfl
@[simp] theorem vt_ce_27:Try.prog.cellsOf 27=4:=by kernel_rfl
@[simp] theorem vt_by_27:Try.prog.bytesOf 27=80:=by kernel_rfl
@[simp] theorem vt_fo0_27:fieldOf Try.prog 27 0=some (0,3):=by kernel_rfl
@[simp] theorem vt_fo1_27:fieldOf Try.prog 27 1=some (1,24):=by kernel_rfl
@[simp] theorem vt_fo2_27:fieldOf Try.prog 27 2=some (2,25):=by kernel_rfl
@[simp] theorem vt_fo3_27:fieldOf Try.prog 27 3=some (3,26):=by kernel_rfl
@[simp] theorem vt_ze_27:zeroV Try.prog 27=some [.d (.int .i64 0),.nil 31,.nil 60,.nil 3]:=by kernel_rfl
@[simp] theorem vt_un_28:(Try.prog.underlying 28).isSome=true:=by kernel_rfl
@[simp] theorem vt_ag_28:aggT Try.prog 28=true:=by kernel_rfl
@[simp] theorem vt_ce_28:Try.prog.cellsOf 28=4:=by kernel_rfl
@[simp] theorem vt_by_28:Try.prog.bytesOf 28=80:=by kernel_rfl
@[simp] theorem vt_fo0_28:fieldOf Try.prog 28 0=some (0,3):=by kernel_rfl
@[simp] theorem vt_fo1_28:fieldOf Try.prog 28 1=some (1,24):=by kernel_rfl
@[simp] theorem vt_fo2_28:fieldOf Try.prog 28 2=some (2,25):=by kernel_rfl
@[simp] theorem vt_fo3_28:fieldOf Try.prog 28 3=some (3,26):=by kernel_rfl
@[simp] theorem vt_ze_28:zeroV Try.prog 28=some [.d (.int .i64 0),.nil 31,.nil 60,.nil 3]:=by kernel_rfl
@[simp] theorem vt_un_30:(Try.prog.underlying 30).isSome=true:=by kernel_rfl
@[simp] theorem vt_ag_30:aggT Try.prog 30=true:=by kernel_rfl
@[simp] theorem vt_ce_30:Try.prog.cellsOf 30=3:=by kernel_rfl
@[simp] theorem vt_by_30:Try.prog.bytesOf 30=40:=by kernel_rfl
@[simp] theorem vt_fo0_30:fieldOf Try.prog 30 0=some (0,3):=by kernel_rfl
@[simp] theorem vt_fo1_30:fieldOf Try.prog 30 1=some (1,3):=by kernel_rfl
@[simp] theorem vt_fo2_30:fieldOf Try.prog 30 2=some (2,26):=by kernel_rfl
@[simp] theorem vt_ze_30:zeroV Try.prog 30=some [.d (.int .i64 0),.d (.int .i64 0),.nil 3]:=by kernel_rfl
@[simp] theorem vt_un_31:(Try.prog.underlying 31).isSome=true:=by kernel_rfl
@[simp] theorem vt_ag_31:aggT Try.prog 31=true:=by kernel_rfl
@[simp] theorem vt_ce_31:Try.prog.cellsOf 31=3:=by kernel_rfl
@[simp] theorem vt_by_31:Try.prog.bytesOf 31=40:=by kernel_rfl
@[simp] theorem vt_fo0_31:fieldOf Try.prog 31 0=some (0,3):=by kernel_rfl
@[simp] theorem vt_fo1_31:fieldOf Try.prog 31 1=some (1,3):=by kernel_rfl
@[simp] theorem vt_fo2_31:fieldOf Try.prog 31 2=some (2,26):=by kernel_rfl
@[simp] theorem vt_ze_31:zeroV Try.prog 31=some [.d (.int .i64 0),.d (.int .i64 0),.nil 3]:=by kernel_rfl
@[simp] theorem vt_un_34:(Try.prog.underlying 34).isSome=true:=by kernel_rfl
@[simp] theorem vt_ag_34:aggT Try.prog 34=false:=by kernel_rfl
@[simp] theorem vt_ce_34:Try.prog.cellsOf 34=1:=by kernel_rfl
@[simp] theorem vt_by_34:Try.prog.bytesOf 34=24:=by kernel_rfl
@[simp] theorem vt_el_34:elemOf Try.prog 34=some 44:=by kernel_rfl
@[simp] theorem vt_ze_34:zeroV Try.prog 34=some [.nil 44]:=by kernel_rfl
@[simp] theorem vt_un_43:(Try.prog.underlying 43).isSome=true:=by kernel_rfl
@[simp] theorem vt_ag_43:aggT Try.prog 43=true:=by kernel_rfl
@[simp] theorem vt_ce_43:Try.prog.cellsOf 43=2:=by kernel_rfl
@[simp] theorem vt_by_43:Try.prog.bytesOf 43=32:=by kernel_rfl
@[simp] theorem vt_fo0_43:fieldOf Try.prog 43 0=some (0,26):=by kernel_rfl
@[simp] theorem vt_fo1_43:fieldOf Try.prog 43 1=some (1,3):=by kernel_rfl
@[simp] theorem vt_ze_43:zeroV Try.prog 43=some [.nil 3,.d (.int .i64 0)]:=by kernel_rfl
@[simp] theorem vt_un_44:(Try.prog.underlying 44).isSome=true:=by kernel_rfl
@[simp] theorem vt_ag_44:aggT Try.prog 44=true:=by kernel_rfl
@[simp] theorem vt_ce_44:Try.prog.cellsOf 44=2:=by kernel_rfl
@[simp] theorem vt_by_44:Try.prog.bytesOf 44=32:=by kernel_rfl
@[simp] theorem vt_fo0_44:fieldOf Try.prog 44 0=some (0,26):=by kernel_rfl
@[simp] theorem vt_fo1_44:fieldOf Try.prog 44 1=some (1,3):=by kernel_rfl
@[simp] theorem vt_ze_44:zeroV Try.prog 44=some [.nil 3,.d (.int .i64 0)]:=by kernel_rfl
@[simp] theorem vt_un_51:(Try.prog.underlying 51).isSome=true:=by kernel_rfl
@[simp] theorem vt_ag_51:aggT Try.prog 51=false:=by kernel_rfl
@[simp] theorem vt_ce_51:Try.prog.cellsOf 51=1:=by kernel_rfl
@[simp] theorem vt_by_51:Try.prog.bytesOf 51=24:=by kernel_rfl
@[simp] theorem vt_el_51:elemOf Try.prog 51=some 28:=by kernel_rfl
@[simp] theorem vt_ze_51:zeroV Try.prog 51=some [.nil 28]:=by kernel_rfl
@[simp] theorem vt_un_52:(Try.prog.underlying 52).isSome=true:=by kernel_rfl
@[simp] theorem vt_ag_52:aggT Try.prog 52=false:=by kernel_rfl
@[simp] theorem vt_ce_52:Try.prog.cellsOf 52=1:=by kernel_rfl
@[simp] theorem vt_by_52:Try.prog.bytesOf 52=24:=by kernel_rfl
@[simp] theorem vt_el_52:elemOf Try.prog 52=some 26:=by kernel_rfl
@[simp] theorem vt_ze_52:zeroV Try.prog 52=some [.nil 26]:=by kernel_rfl
@[simp] theorem vt_un_59:(Try.prog.underlying 59).isSome=true:=by kernel_rfl
@[simp] theorem vt_ag_59:aggT Try.prog 59=true:=by kernel_rfl
@[simp] theorem vt_ce_59:Try.prog.cellsOf 59=2:=by kernel_rfl
@[simp] theorem vt_by_59:Try.prog.bytesOf 59=16:=by kernel_rfl
@[simp] theorem vt_fo0_59:fieldOf Try.prog 59 0=some (0,3):=by kernel_rfl
@[simp] theorem vt_fo1_59:fieldOf Try.prog 59 1=some (1,3):=by kernel_rfl
@[simp] theorem vt_ze_59:zeroV Try.prog 59=some [.d (.int .i64 0),.d (.int .i64 0)]:=by kernel_rfl
@[simp] theorem vt_pa_59:pairT Try.prog 59=true:=by kernel_rfl
@[simp] theorem vt_un_60:(Try.prog.underlying 60).isSome=true:=by kernel_rfl
@[simp] theorem vt_ag_60:aggT Try.prog 60=true:=by kernel_rfl
@[simp] theorem vt_ce_60:Try.prog.cellsOf 60=2:=by kernel_rfl
@[simp] theorem vt_by_60:Try.prog.bytesOf 60=16:=by kernel_rfl
@[simp] theorem vt_fo0_60:fieldOf Try.prog 60 0=some (0,3):=by kernel_rfl
@[simp] theorem vt_fo1_60:fieldOf Try.prog 60 1=some (1,3):=by kernel_rfl
@[simp] theorem vt_ze_60:zeroV Try.prog 60=some [.d (.int .i64 0),.d (.int .i64 0)]:=by kernel_rfl
@[simp] theorem vt_pa_60:pairT Try.prog 60=true:=by kernel_rfl
@[simp] theorem vt_un_61:(Try.prog.underlying 61).isSome=true:=by kernel_rfl
@[simp] theorem vt_ag_61:aggT Try.prog 61=true:=by kernel_rfl
@[simp] theorem vt_ce_61:Try.prog.cellsOf 61=2:=by kernel_rfl
@[simp] theorem vt_by_61:Try.prog.bytesOf 61=16:=by kernel_rfl
@[simp] theorem vt_fo0_61:fieldOf Try.prog 61 0=some (0,3):=by kernel_rfl
@[simp] theorem vt_fo1_61:fieldOf Try.prog 61 1=some (1,3):=by kernel_rfl
@[simp] theorem vt_ze_61:zeroV Try.prog 61=some [.d (.int .i64 0),.d (.int .i64 0)]:=by kernel_rfl
@[simp] theorem vt_pa_61:pairT Try.prog 61=true:=by kernel_rfl
@[simp] theorem vt_un_62:(Try.prog.underlying 62).isSome=true:=by kernel_rfl
@[simp] theorem vt_ag_62:aggT Try.prog 62=true:=by kernel_rfl
@[simp] theorem vt_ce_62:Try.prog.cellsOf 62=2:=by kernel_rfl
@[simp] theorem vt_by_62:Try.prog.bytesOf 62=16:=by kernel_rfl
@[simp] theorem vt_fo0_62:fieldOf Try.prog 62 0=some (0,3):=by kernel_rfl
@[simp] theorem vt_fo1_62:fieldOf Try.prog 62 1=some (1,3):=by kernel_rfl
@[simp] theorem vt_ze_62:zeroV Try.prog 62=some [.d (.int .i64 0),.d (.int .i64 0)]:=by kernel_rfl
@[simp] theorem vt_pa_62:pairT Try.prog 62=true:=by kernel_rfl
@[simp] theorem vt_un_64:(Try.prog.underlying 64).isSome=true:=by kernel_rfl
@[simp] theorem vt_ag_64:aggT Try.prog 64=false:=by kernel_rfl
@[simp] theorem vt_ce_64:Try.prog.cellsOf 64=1:=by kernel_rfl
@[simp] theorem vt_by_64:Try.prog.bytesOf 64=8:=by kernel_rfl
@[simp] theorem vt_ze_64:zeroV Try.prog 64=some [.d (.int .u64 0)]:=by kernel_rfl
@[simp] theorem vt_ud_64:Try.prog.underlying 64=some (.int .u64):=by kernel_rfl
@[simp] theorem vt_un_78:(Try.prog.underlying 78).isSome=true:=by kernel_rfl
@[simp] theorem vt_ag_78:aggT Try.prog 78=false:=by kernel_rfl
@[simp] theorem vt_ce_78:Try.prog.cellsOf 78=1:=by kernel_rfl
@[simp] theorem vt_by_78:Try.prog.bytesOf 78=24:=by kernel_rfl
@[simp] theorem vt_el_78:elemOf Try.prog 78=some 4:=by kernel_rfl
@[simp] theorem vt_ze_78:zeroV Try.prog 78=some [.nil 4]:=by kernel_rfl
@[simp] theorem vt_un_82:(Try.prog.underlying 82).isSome=true:=by kernel_rfl
@[simp] theorem vt_ag_82:aggT Try.prog 82=true:=by kernel_rfl
@[simp] theorem vt_ce_82:Try.prog.cellsOf 82=5:=by kernel_rfl
@[simp] theorem vt_by_82:Try.prog.bytesOf 82=104:=by kernel_rfl
@[simp] theorem vt_fo0_82:fieldOf Try.prog 82 0=some (0,28):=by kernel_rfl
@[simp] theorem vt_fo1_82:fieldOf Try.prog 82 1=some (4,26):=by kernel_rfl
@[simp] theorem vt_ze_82:zeroV Try.prog 82=some [.d (.int .i64 0),.nil 31,.nil 60,.nil 3,.nil 3]:=by kernel_rfl
@[simp] theorem vt_un_83:(Try.prog.underlying 83).isSome=true:=by kernel_rfl
@[simp] theorem vt_ag_83:aggT Try.prog 83=true:=by kernel_rfl
@[simp] theorem vt_ce_83:Try.prog.cellsOf 83=5:=by kernel_rfl
@[simp] theorem vt_by_83:Try.prog.bytesOf 83=104:=by kernel_rfl
@[simp] theorem vt_fo0_83:fieldOf Try.prog 83 0=some (0,28):=by kernel_rfl
@[simp] theorem vt_fo1_83:fieldOf Try.prog 83 1=some (4,26):=by kernel_rfl
@[simp] theorem vt_ze_83:zeroV Try.prog 83=some [.d (.int .i64 0),.nil 31,.nil 60,.nil 3,.nil 3]:=by kernel_rfl
@[simp] theorem vt_un_90:(Try.prog.underlying 90).isSome=true:=by kernel_rfl
@[simp] theorem vt_ag_90:aggT Try.prog 90=false:=by kernel_rfl
@[simp] theorem vt_ce_90:Try.prog.cellsOf 90=1:=by kernel_rfl
@[simp] theorem vt_by_90:Try.prog.bytesOf 90=24:=by kernel_rfl
@[simp] theorem vt_el_90:elemOf Try.prog 90=some 52:=by kernel_rfl
@[simp] theorem vt_ze_90:zeroV Try.prog 90=some [.nil 52]:=by kernel_rfl
@[simp] theorem vt_un_95:(Try.prog.underlying 95).isSome=true:=by kernel_rfl
@[simp] theorem vt_ag_95:aggT Try.prog 95=true:=by kernel_rfl
@[simp] theorem vt_ce_95:Try.prog.cellsOf 95=2:=by kernel_rfl
@[simp] theorem vt_by_95:Try.prog.bytesOf 95=32:=by kernel_rfl
@[simp] theorem vt_fo0_95:fieldOf Try.prog 95 0=some (0,3):=by kernel_rfl
@[simp] theorem vt_fo1_95:fieldOf Try.prog 95 1=some (1,52):=by kernel_rfl
@[simp] theorem vt_ze_95:zeroV Try.prog 95=some [.d (.int .i64 0),.nil 26]:=by kernel_rfl
@[simp] theorem vt_un_96:(Try.prog.underlying 96).isSome=true:=by kernel_rfl
@[simp] theorem vt_ag_96:aggT Try.prog 96=true:=by kernel_rfl
@[simp] theorem vt_ce_96:Try.prog.cellsOf 96=2:=by kernel_rfl
@[simp] theorem vt_by_96:Try.prog.bytesOf 96=32:=by kernel_rfl
@[simp] theorem vt_fo0_96:fieldOf Try.prog 96 0=some (0,3):=by kernel_rfl
@[simp] theorem vt_fo1_96:fieldOf Try.prog 96 1=some (1,52):=by kernel_rfl
@[simp] theorem vt_ze_96:zeroV Try.prog 96=some [.d (.int .i64 0),.nil 26]:=by kernel_rfl
@[simp] theorem vt_un_104:(Try.prog.underlying 104).isSome=true:=by kernel_rfl
@[simp] theorem vt_ag_104:aggT Try.prog 104=true:=by kernel_rfl
@[simp] theorem vt_ce_104:Try.prog.cellsOf 104=3:=by kernel_rfl
@[simp] theorem vt_by_104:Try.prog.bytesOf 104=40:=by kernel_rfl
@[simp] theorem vt_fo0_104:fieldOf Try.prog 104 0=some (0,22):=by kernel_rfl
@[simp] theorem vt_fo1_104:fieldOf Try.prog 104 1=some (1,3):=by kernel_rfl
@[simp] theorem vt_fo2_104:fieldOf Try.prog 104 2=some (2,3):=by kernel_rfl
@[simp] theorem vt_ze_104:zeroV Try.prog 104=some [.nil 5,.d (.int .i64 0),.d (.int .i64 0)]:=by kernel_rfl
@[simp] theorem vt_un_105:(Try.prog.underlying 105).isSome=true:=by kernel_rfl
@[simp] theorem vt_ag_105:aggT Try.prog 105=true:=by kernel_rfl
@[simp] theorem vt_ce_105:Try.prog.cellsOf 105=3:=by kernel_rfl
@[simp] theorem vt_by_105:Try.prog.bytesOf 105=40:=by kernel_rfl
@[simp] theorem vt_fo0_105:fieldOf Try.prog 105 0=some (0,22):=by kernel_rfl
@[simp] theorem vt_fo1_105:fieldOf Try.prog 105 1=some (1,3):=by kernel_rfl
@[simp] theorem vt_fo2_105:fieldOf Try.prog 105 2=some (2,3):=by kernel_rfl
@[simp] theorem vt_ze_105:zeroV Try.prog 105=some [.nil 5,.d (.int .i64 0),.d (.int .i64 0)]:=by kernel_rfl
@[simp] theorem vt_un_118:(Try.prog.underlying 118).isSome=true:=by kernel_rfl
@[simp] theorem vt_ag_118:aggT Try.prog 118=false:=by kernel_rfl
@[simp] theorem vt_ce_118:Try.prog.cellsOf 118=1:=by kernel_rfl
@[simp] theorem vt_by_118:Try.prog.bytesOf 118=24:=by kernel_rfl
@[simp] theorem vt_el_118:elemOf Try.prog 118=some 138:=by kernel_rfl
@[simp] theorem vt_ze_118:zeroV Try.prog 118=some [.nil 138]:=by kernel_rfl
@[simp] theorem vt_un_126:(Try.prog.underlying 126).isSome=true:=by kernel_rfl
@[simp] theorem vt_ag_126:aggT Try.prog 126=true:=by kernel_rfl
@[simp] theorem vt_ce_126:Try.prog.cellsOf 126=6:=by kernel_rfl
@[simp] theorem vt_by_126:Try.prog.bytesOf 126=96:=by kernel_rfl
@[simp] theorem vt_fo0_126:fieldOf Try.prog 126 0=some (0,96):=by kernel_rfl
@[simp] theorem vt_fo1_126:fieldOf Try.prog 126 1=some (2,3):=by kernel_rfl
@[simp] theorem vt_fo2_126:fieldOf Try.prog 126 2=some (3,3):=by kernel_rfl
@[simp] theorem vt_fo3_126:fieldOf Try.prog 126 3=some (4,52):=by kernel_rfl
@[simp] theorem vt_fo4_126:fieldOf Try.prog 126 4=some (5,26):=by kernel_rfl
@[simp] theorem vt_ze_126:zeroV Try.prog 126=some [.d (.int .i64 0),.nil 26,.d (.int .i64 0),.d (.int .i64 0),.nil 26,.nil 3]:=by kernel_rfl
@[simp] theorem vt_un_127:(Try.prog.underlying 127).isSome=true:=by kernel_rfl
@[simp] theorem vt_ag_127:aggT Try.prog 127=true:=by kernel_rfl
@[simp] theorem vt_ce_127:Try.prog.cellsOf 127=6:=by kernel_rfl
@[simp] theorem vt_by_127:Try.prog.bytesOf 127=96:=by kernel_rfl
@[simp] theorem vt_fo0_127:fieldOf Try.prog 127 0=some (0,96):=by kernel_rfl
@[simp] theorem vt_fo1_127:fieldOf Try.prog 127 1=some (2,3):=by kernel_rfl
@[simp] theorem vt_fo2_127:fieldOf Try.prog 127 2=some (3,3):=by kernel_rfl
@[simp] theorem vt_fo3_127:fieldOf Try.prog 127 3=some (4,52):=by kernel_rfl
@[simp] theorem vt_fo4_127:fieldOf Try.prog 127 4=some (5,26):=by kernel_rfl
@[simp] theorem vt_ze_127:zeroV Try.prog 127=some [.d (.int .i64 0),.nil 26,.d (.int .i64 0),.d (.int .i64 0),.nil 26,.nil 3]:=by kernel_rfl
@[simp] theorem vt_un_137:(Try.prog.underlying 137).isSome=true:=by kernel_rfl
@[simp] theorem vt_ag_137:aggT Try.prog 137=true:=by kernel_rfl
@[simp] theorem vt_ce_137:Try.prog.cellsOf 137=2:=by kernel_rfl
@[simp] theorem vt_by_137:Try.prog.bytesOf 137=16:=by kernel_rfl
@[simp] theorem vt_fo0_137:fieldOf Try.prog 137 0=some (0,3):=by kernel_rfl
@[simp] theorem vt_fo1_137:fieldOf Try.prog 137 1=some (1,3):=by kernel_rfl
@[simp] theorem vt_ze_137:zeroV Try.prog 137=some [.d (.int .i64 0),.d (.int .i64 0)]:=by kernel_rfl
@[simp] theorem vt_pa_137:pairT Try.prog 137=true:=by kernel_rfl
@[simp] theorem vt_un_138:(Try.prog.underlying 138).isSome=true:=by kernel_rfl
@[simp] theorem vt_ag_138:aggT Try.prog 138=true:=by kernel_rfl
@[simp] theorem vt_ce_138:Try.prog.cellsOf 138=2:=by kernel_rfl
@[simp] theorem vt_by_138:Try.prog.bytesOf 138=16:=by kernel_rfl
@[simp] theorem vt_fo0_138:fieldOf Try.prog 138 0=some (0,3):=by kernel_rfl
@[simp] theorem vt_fo1_138:fieldOf Try.prog 138 1=some (1,3):=by kernel_rfl
@[simp] theorem vt_ze_138:zeroV Try.prog 138=some [.d (.int .i64 0),.d (.int .i64 0)]:=by kernel_rfl
@[simp] theorem vt_pa_138:pairT Try.prog 138=true:=by kernel_rfl
@[simp] theorem vt_un_157:(Try.prog.underlying 157).isSome=true:=by kernel_rfl
@[simp] theorem vt_un_161:(Try.prog.underlying 161).isSome=true:=by kernel_rfl
@[simp] theorem vt_ag_161:aggT Try.prog 161=false:=by kernel_rfl
@[simp] theorem vt_ce_161:Try.prog.cellsOf 161=1:=by kernel_rfl
@[simp] theorem vt_by_161:Try.prog.bytesOf 161=4:=by kernel_rfl
@[simp] theorem vt_ze_161:zeroV Try.prog 161=some [.d (.int .u32 0)]:=by kernel_rfl
@[simp] theorem vt_ud_161:Try.prog.underlying 161=some (.int .u32):=by kernel_rfl
@[simp] theorem vt_un_162:(Try.prog.underlying 162).isSome=true:=by kernel_rfl
@[simp] theorem vt_ag_162:aggT Try.prog 162=false:=by kernel_rfl
@[simp] theorem vt_ce_162:Try.prog.cellsOf 162=1:=by kernel_rfl
@[simp] theorem vt_by_162:Try.prog.bytesOf 162=1:=by kernel_rfl
@[simp] theorem vt_ze_162:zeroV Try.prog 162=some [.d (.int .u8 0)]:=by kernel_rfl
@[simp] theorem vt_ud_162:Try.prog.underlying 162=some (.int .u8):=by kernel_rfl
@[simp] theorem vt_un_163:(Try.prog.underlying 163).isSome=true:=by kernel_rfl
@[simp] theorem vt_ag_163:aggT Try.prog 163=false:=by kernel_rfl
@[simp] theorem vt_ce_163:Try.prog.cellsOf 163=1:=by kernel_rfl
@[simp] theorem vt_by_163:Try.prog.bytesOf 163=1:=by kernel_rfl
@[simp] theorem vt_ze_163:zeroV Try.prog 163=some [.d (.int .u8 0)]:=by kernel_rfl
@[simp] theorem vt_ud_163:Try.prog.underlying 163=some (.int .u8):=by kernel_rfl
@[simp] theorem vt_un_166:(Try.prog.underlying 166).isSome=true:=by kernel_rfl
@[simp] theorem vt_ag_166:aggT Try.prog 166=false:=by kernel_rfl
@[simp] theorem vt_ce_166:Try.prog.cellsOf 166=1:=by kernel_rfl
@[simp] theorem vt_by_166:Try.prog.bytesOf 166=4:=by kernel_rfl
@[simp] theorem vt_ze_166:zeroV Try.prog 166=some [.d (.int .i32 0)]:=by kernel_rfl
@[simp] theorem vt_ud_166:Try.prog.underlying 166=some (.int .i32):=by kernel_rfl
@[simp] theorem vt_un_167:(Try.prog.underlying 167).isSome=true:=by kernel_rfl
@[simp] theorem vt_ag_167:aggT Try.prog 167=false:=by kernel_rfl
@[simp] theorem vt_ce_167:Try.prog.cellsOf 167=1:=by kernel_rfl
@[simp] theorem vt_by_167:Try.prog.bytesOf 167=4:=by kernel_rfl
@[simp] theorem vt_ze_167:zeroV Try.prog 167=some [.d (.int .i32 0)]:=by kernel_rfl
@[simp] theorem vt_ud_167:Try.prog.underlying 167=some (.int .i32):=by kernel_rfl
end Go.Proofs.Ytnjedabjbeipeaa
/-
  Words for abstract walks; first contracts.
  Conditions: those typed in each theorem.
-/
namespace Go.Proofs.Ytnjedabjbeipeaa
open Go.RowKit Go.ChangeShapes Go.WideShapes
set_option linter.unusedVariables false
set_option linter.unusedSimpArgs false
section
variable {P:Program} {m:Mode} {Q:Exit→St→Prop} {σ:St} {dr:Bool}
theorem AWp_skip:AWp P m .skip Q σ=Q .normal σ:=rfl
theorem AWp_region_t {id n:Nat} {s b:Bool} {ops:Array Oper}:AWp P ⟨n,s,b,false⟩ (.region id ops true) Q σ=(drawOk ops=true∧AOps P ⟨n,s,false,false⟩ ops (Q .normal) ops.toList σ):=rfl
theorem AWp_region_d {id n:Nat} {s b:Bool} {ops:Array Oper}:AWp P ⟨n,s,b,true⟩ (.region id ops true) Q σ=drawD P ⟨n,s,b,true⟩ ops Q σ:=rfl
theorem drawD_of {n:Nat} {s b:Bool} {ops:Array Oper} (q:Nat) (h:drawAt ops q=true) (h2:AOps P ⟨n,s,false,true⟩ ops (AOps P ⟨n,s,b,true⟩ ops (Q .normal) (ops.toList.drop q)) (ops.toList.take q) σ):drawD P ⟨n,s,b,true⟩ ops Q σ:=.inl (.inl ⟨q,h,h2⟩)
theorem AWp_region_f {id:Nat} {ops:Array Oper}:AWp P m (.region id ops false) Q σ=AOps P m ops (Q .normal) ops.toList σ:=rfl
theorem still_mk {n:Nat} {s b q:Bool}:(⟨n,s,b,q⟩:Mode).still=⟨n,s,false,q⟩:=rfl
theorem AWp_seq {a b:Code}:AWp P m (.seq a b) Q σ=AWp P m a (thenA (AWp P m b Q) Q) σ:=rfl
def condB (t:Bool) (A B:Prop):Prop:=(t=true→A)∧(t=false→B)
theorem condB_true {A B:Prop}:condB true A B=A:=by simp[condB]
theorem condB_false {A B:Prop}:condB false A B=B:=by simp[condB]
def condG (t:Bool) (A B:Prop):Prop:=condB t A B
@[congr] theorem condG_congr {t t':Bool} {A B:Prop} (h:t=t'):condG t A B=condG t' A B:=by rw[h]
theorem condG_true {A B:Prop}:condG true A B=A:=condB_true
theorem condG_false {A B:Prop}:condG false A B=B:=condB_false
def condV (P:Program) (m:Mode) (x y:Code) (Q:Exit→St→Prop) (σ:St) (v:V):Prop :=
 match v with
 | .d (.bool t)=>condB t (AWp P m x Q σ) (AWp P m y Q σ)
 | _=>False
theorem condV_bool {x y:Code} {t:Bool}:condV P m x y Q σ (.d (.bool t))=condB t (AWp P m x Q σ) (AWp P m y Q σ):=rfl
theorem AWp_cond {c:Operand} {x y:Code}:AWp P m (.cond c x y) Q σ=condV P m x y Q σ (σ.eval c):=by
 show (match σ.eval c with
  | .d (.bool t)=>(t=true→AWp P m x Q σ)∧(t=false→AWp P m y Q σ)
  | _=>False)=_
 rfl
theorem AWp_block {id:Nat} {c:Code}:AWp P m (.block id c) Q σ=AWp P m c (inBlockA id Q) σ:=rfl
theorem AWp_exit {id:Nat}:AWp P m (.exit id) Q σ=Q (.exit id) σ:=rfl
theorem AWp_ret:AWp P m .ret Q σ=Q .ret σ:=rfl
section
variable {K:St→Prop} {d:Option Tmp} {ty:TypeId} {pos:String} {af:Array Edge} {g:Option (Nat×Bool)} {x y z:Operand} {t s:TypeId} {f n:Nat}
theorem aop_pure {o:Oper} (h:AOp P m o K σ=∃ x news,(apure P m.st σ o=some x∧news=[])∧K (St.put ⟨σ.tmps,σ.slots++news⟩ o.dst x)):AOp P m o K σ=∃ x,apure P m.st σ o=some x∧K (σ.put o.dst x):=by
 rw[h]
 apply propext
 constructor
 · rintro⟨x,news,⟨h1,rfl⟩,h2⟩
   rw[List.append_nil] at h2
   exact⟨x,h1,h2⟩
 · rintro⟨x,h1,h2⟩
   exact⟨x,[],⟨h1,rfl⟩,by rw[List.append_nil];exact h2⟩
theorem ex_some {v:V} {K:V→Prop}:(∃ x,some v=some x∧K x)=K v:=by
 apply propext
 constructor
 · rintro⟨x,h,hk⟩;cases h;exact hk
 · exact fun h=>⟨v,rfl,h⟩
variable {ops:Array Oper} {rest:List Oper}
def nextO (P:Program) (m:Mode) (ops:Array Oper) (K:St→Prop) (rest:List Oper) (σ:St) (d:Option Tmp) (v:Option V):Prop:=∃ x,v=some x∧AOps P m ops K rest (σ.put d x)
theorem nextO_some {v:V}:nextO P m ops K rest σ d (some v)=AOps P m ops K rest (σ.put d v):=ex_some
def beginT (P:Program) (m:Mode) (ops:Array Oper) (K:St→Prop) (T:List (Oper×List Nat)) (N:List (Nat×List Nat)) (σ:St):Prop:=AOpsT P m ops N σ.slots K T σ
theorem beginT_mk {T:List (Oper×List Nat)} {N:List (Nat×List Nat)} {ts:List V} {sl:List Slot}:beginT P m ops K T N ⟨ts,sl⟩=AOpsT P m ops N sl K T ⟨ts,sl⟩:=rfl
def thenT (P:Program) (m:Mode) (ops:Array Oper) (N:List (Nat×List Nat)) (sl0:List Slot) (K:St→Prop) (ns:List Nat) (T:List (Oper×List Nat)) (σ:St):Prop:=stableN sl0 σ.slots ns N∧AOpsT P m ops N sl0 K T σ
theorem thenT_mk {T:List (Oper×List Nat)} {N:List (Nat×List Nat)} {sl0:List Slot} {ns:List Nat} {ts:List V} {sl:List Slot}:thenT P m ops N sl0 K ns T ⟨ts,sl⟩=(stableN sl0 sl ns N∧AOpsT P m ops N sl0 K T ⟨ts,sl⟩):=rfl
theorem AOpsE_nil {KE:List (Nat×List Nat)→St→Prop} {ts N:List (Nat×List Nat)}:AOpsE P m ops ts KE [] N σ=KE N σ:=rfl
theorem AOpsE_cons {KE:List (Nat×List Nat)→St→Prop} {ts N:List (Nat×List Nat)} {i:Nat} {o:Oper} {E:List (Nat×Oper)}:AOpsE P m ops ts KE ((i,o)::E) N σ=AOps P m ops (AOpsE P m ops ts KE E (if loose ts i=true then (i,namesOf o σ)::N else N)) [o] σ:=rfl
theorem AOpsT_nil {N:List (Nat×List Nat)} {sl0:List Slot}:AOpsT P m ops N sl0 K [] σ=K σ:=rfl
def callCG (P:Program) (m:Mode) (ops:Array Oper) (N:List (Nat×List Nat)) (sl0:List Slot) (K:St→Prop) (ns:List Nat) (T:List (Oper×List Nat)) (σ:St) (d:Option Tmp) (f:FuncId) (xs near:List V):Prop :=
 m.st=false∧∃ (ks π:List Nat) (args:List V) (slc:List Slot) (q:V) (slc':List Slot),ConT P f args slc q slc'∧lives slc∧ks.Nodup∧arrsOk σ.slots ks∧π.Nodup∧leSlots true (kill ks σ.slots) π π slc∧leTmps true (kill ks σ.slots) π (xs.map (viewV σ.slots ks)) args ∧
  (∀ k∈ks++π,nearTo σ.slots near k)∧backT (kill ks σ.slots) π q slc' fun z r=>stableN sl0 r ns N∧AOpsT P m ops N sl0 K T (St.put ⟨σ.tmps,r⟩ d z)
def condC (t:Bool) (A B:Prop):Prop:=if t=true then A else B
theorem condC_true {A B:Prop}:condC true A B=A:=rfl
theorem condC_false {A B:Prop}:condC false A B=B:=rfl
def callVC (P:Program) (m:Mode) (ops:Array Oper) (N:List (Nat×List Nat)) (sl0:List Slot) (K:St→Prop) (ns:List Nat) (T:List (Oper×List Nat)) (σ:St) (d:Option Tmp) (v:V) (xs:List V):Prop :=
 match v with
 | .fn f caps=>callCG P m ops N sl0 K ns T σ d f (xs++caps) (.fn f caps::xs)
 | _=>False
theorem callVC_fn {N:List (Nat×List Nat)} {sl0:List Slot} {ns:List Nat} {T:List (Oper×List Nat)} {f:FuncId} {caps xs:List V}:callVC P m ops N sl0 K ns T σ d (.fn f caps) xs=callCG P m ops N sl0 K ns T σ d f (xs++caps) (.fn f caps::xs):=rfl
def callOf (P:Program) (m:Mode) (ops:Array Oper) (N:List (Nat×List Nat)) (sl0:List Slot) (K:St→Prop) (ns:List Nat) (T:List (Oper×List Nat)) (σ:St) (d:Option Tmp) (op:Op):Prop :=
 match op with
 | .call c=>match c.callee with
   | .value (.func f)=>callCG P m ops N sl0 K ns T σ d f (c.args.toList.map σ.eval) (.fn f []::c.args.toList.map σ.eval)
   | .value v=>callVC P m ops N sl0 K ns T σ d (σ.eval v) (c.args.toList.map σ.eval)
   | _=>False
 | _=>False
theorem callOf_v {N:List (Nat×List Nat)} {sl0:List Slot} {ns:List Nat} {T:List (Oper×List Nat)} {o:Oper} {c:Call} {v:Operand} (ho:o.op=.call c) (hc:c.callee=.value v) :
 (∃ z r,StepC P m o σ z r∧stableN sl0 r ns N∧AOpsT P m ops N sl0 K T (St.put ⟨σ.tmps,r⟩ d z))=callVC P m ops N sl0 K ns T σ d (σ.eval v) (c.args.toList.map σ.eval):=by
 apply propext
 constructor
 · rintro⟨z,r,⟨h0,v',f,caps,c',ho',hc',hf,ks,π,aa,slc,q,slc',h1,h2,h3,h4,h5,h6,h7,h8,r1,ys,b1,b2,rfl,rfl⟩,hs,hk⟩
   rw[ho] at ho'
   cases ho'
   rw[hc] at hc'
   cases hc'
   rw[hf,callVC_fn]
   exact⟨h0,ks,π,aa,slc,q,slc',h1,h2,h3,h4,h5,h6,h7,h8,_,ys,b1,b2,hs,hk⟩
 · intro h
   cases hv:σ.eval v with
   | fn f caps =>
     rw[hv,callVC_fn] at h
     obtain⟨h0,ks,π,aa,slc,q,slc',h1,h2,h3,h4,h5,h6,h7,h8,r1,ys,b1,b2,hs,hk⟩:=h
     exact⟨_,_,⟨h0,v,f,caps,c,ho,hc,hv,ks,π,aa,slc,q,slc',h1,h2,h3,h4,h5,h6,h7,h8,r1,ys,b1,b2,rfl,rfl⟩,hs,hk⟩
   | _=>rw[hv] at h;exact h.elim
theorem AOpsT_cons {N:List (Nat×List Nat)} {sl0:List Slot} {o:Oper} {ns:List Nat} {T:List (Oper×List Nat)}:AOpsT P m ops N sl0 K ((o,ns)::T) σ=condC (isCallT o) (callOf P m ops N sl0 K ns T σ o.dst o.op) (AOps P m ops (thenT P m ops N sl0 K ns T) [o] σ):=by
 show (if isCallT o=true then _ else _)=_
 cases hc:isCallT o with
 | false=>rfl
 | true =>
   rw[if_pos rfl,condC_true]
   unfold isCallT at hc
   split at hc
   · rename_i c ho
     split at hc
     · rename_i v hf
       rw[callOf_v ho hf]
       unfold callOf
       rw[ho]
       simp only[hf]
       cases v with
       | func f =>
         show callVC P m ops N sl0 K ns T σ o.dst (.fn f []) _=_
         rw[callVC_fn,List.append_nil]
       | tmp t=>rfl
       | _=>simp[isFnO] at hc
     · cases hc
   · cases hc
def afterC (P:Program) (m:Mode) (ops:Array Oper) (N:List (Nat×List Nat)) (sl0:List Slot) (K:St→Prop) (ns:List Nat) (T:List (Oper×List Nat)) (Tm:List V) (d:Option Tmp) (sl:List Slot) (π:List Nat) (r':Option V) (ys:Option (List Slot)):Prop :=
 ∃ r ys',r'=some r∧ys=some ys'∧stableN sl0 (setAll sl π (ys'.take π.length)++ys'.drop π.length) ns N∧AOpsT P m ops N sl0 K T (St.put ⟨Tm,setAll sl π (ys'.take π.length)++ys'.drop π.length⟩ d r)
theorem afterC_some {N:List (Nat×List Nat)} {sl0:List Slot} {ns:List Nat} {T:List (Oper×List Nat)} {Tm:List V} {sl:List Slot} {π:List Nat} {r:V} {ys:List Slot}:afterC P m ops N sl0 K ns T Tm d sl π (some r) (some ys)=(stableN sl0 (setAll sl π (ys.take π.length)++ys.drop π.length) ns N∧AOpsT P m ops N sl0 K T (St.put ⟨Tm,setAll sl π (ys.take π.length)++ys.drop π.length⟩ d r)):=by
 apply propext
 constructor
 · rintro⟨_,_,h1,h2,h⟩;cases h1;cases h2;exact h
 · exact fun h=>⟨_,_,rfl,rfl,h⟩
theorem drawE_of {n:Nat} {s b:Bool} {ops:Array Oper} (ts:List (Nat×List Nat)) (h:drawEOk ops ts=true) (h2:AOpsE P ⟨n,s,false,true⟩ ops ts (beginT P ⟨n,s,false,true⟩ ops (Q .normal) (pickT ops.toList ts)) (pickE ts 0 ops.toList) [] σ):drawD P ⟨n,s,b,true⟩ ops Q σ:=.inl (.inr (.inl ⟨ts,h,h2⟩))
def beginX (P:Program) (m:Mode) (ops:Array Oper) (K:St→Prop) (ts:List (Nat×List Nat)) (N:List (Nat×List Nat)) (σ:St):Prop:=AOpsX P m ops N σ.slots K ts.length ts σ
theorem beginX_mk {T:List (Nat×List Nat)} {N:List (Nat×List Nat)} {ts:List V} {sl:List Slot}:beginX P m ops K T N ⟨ts,sl⟩=AOpsX P m ops N sl K T.length T ⟨ts,sl⟩:=rfl
theorem AOpsX_zero {N T:List (Nat×List Nat)} {sl0:List Slot}:AOpsX P m ops N sl0 K 0 T σ=K σ:=rfl
def eachX (F:Nat×List Nat→Prop):List (Nat×List Nat)→Prop
 | []=>True
 | p::ps=>F p∧eachX F ps
theorem eachX_one {F:Nat×List Nat→Prop} {p:Nat×List Nat}:eachX F [p]=F p:=by simp[eachX]
theorem eachX_two {F:Nat×List Nat→Prop} {p q:Nat×List Nat} {ps:List (Nat×List Nat)}:eachX F (p::q::ps)=(F p∧eachX F (q::ps)):=rfl
theorem eachX_mem {F:Nat×List Nat→Prop}:∀ {ps:List (Nat×List Nat)},eachX F ps→∀ p∈ps,F p
 | [],_,p,hp=>by cases hp
 | q::ps,h,p,hp=>by
   rcases List.mem_cons.1 hp with rfl|hp
   · exact h.1
   · exact eachX_mem h.2 p hp
theorem stepX {N T:List (Nat×List Nat)} {sl0:List Slot} {n:Nat} (ps:List (Nat×List Nat)) (h:T.filter (readyX (bitsAll ops.toList) T)=ps) (h2:eachX (fun p=>AOpsT P m ops N sl0 (AOpsX P m ops N sl0 K n (T.erase p)) (pickT ops.toList [p]) σ) ps):AOpsX P m ops N sl0 K (n+1) T σ :=
 fun p hp hr=>eachX_mem h2 p (by rw[←h];exact List.mem_filter.2 ⟨hp,hr⟩)
theorem drawX_of {n:Nat} {s b:Bool} {ops:Array Oper} (ts:List (Nat×List Nat)) (h:drawXOk ops ts=true) (h2:AOpsE P ⟨n,s,false,true⟩ ops ts (beginX P ⟨n,s,false,true⟩ ops (Q .normal) ts) (pickE ts 0 ops.toList) [] σ):drawD P ⟨n,s,b,true⟩ ops Q σ:=.inl (.inr (.inr ⟨ts,h,h2⟩))
theorem drawB_of {n:Nat} {s b:Bool} {ops:Array Oper} (q:Nat) (h:barOk ops q=true) (h2:drawD1 P ⟨n,s,b,true⟩ (headA q ops) (fun e σ1=>e=.normal∧drawD1 P ⟨n,s,b,true⟩ (tailA q ops) Q σ1) σ):drawD P ⟨n,s,b,true⟩ ops Q σ:=.inr (.inl ⟨q,h,h2⟩)
theorem drawD1_of {n:Nat} {s b:Bool} {ops:Array Oper} (q:Nat) (h:drawAt ops q=true) (h2:AOps P ⟨n,s,false,true⟩ ops (AOps P ⟨n,s,b,true⟩ ops (Q .normal) (ops.toList.drop q)) (ops.toList.take q) σ):drawD1 P ⟨n,s,b,true⟩ ops Q σ:=.inl ⟨q,h,h2⟩
theorem drawE1_of {n:Nat} {s b:Bool} {ops:Array Oper} (ts:List (Nat×List Nat)) (h:drawEOk ops ts=true) (h2:AOpsE P ⟨n,s,false,true⟩ ops ts (beginT P ⟨n,s,false,true⟩ ops (Q .normal) (pickT ops.toList ts)) (pickE ts 0 ops.toList) [] σ):drawD1 P ⟨n,s,b,true⟩ ops Q σ:=.inr (.inl ⟨ts,h,h2⟩)
theorem headA_list {q:Nat} {ops:Array Oper}:(headA q ops).toList=ops.toList.take q:=by unfold headA;simp
theorem tailA_list {q:Nat} {ops:Array Oper}:(tailA q ops).toList=(ops.toList.drop q).map (shiftO q):=rfl
theorem shiftO_mk {q:Nat} {op:Op} {g:Option (Nat×Bool)}:shiftO q ⟨d,op,ty,pos,af,g⟩=⟨d,op,ty,pos,shiftAf q af,g.map fun p=>(p.1 - q,p.2)⟩:=rfl
theorem AOps_nil:AOps P m ops K [] σ=K σ:=rfl
theorem aops_un {op:Op}:AOps P m ops K (⟨d,op,ty,pos,af,none⟩::rest) σ=AOp P m ⟨d,op,ty,pos,af,none⟩ (AOps P m ops K rest) σ:=rfl
theorem aops_pure {op:Op} (h:AOp P m ⟨d,op,ty,pos,af,none⟩ (AOps P m ops K rest) σ=∃ x news,(apure P m.st σ ⟨d,op,ty,pos,af,none⟩=some x∧news=[])∧AOps P m ops K rest (St.put ⟨σ.tmps,σ.slots++news⟩ d x)):AOps P m ops K (⟨d,op,ty,pos,af,none⟩::rest) σ=nextO P m ops K rest σ d (apure P m.st σ ⟨d,op,ty,pos,af,none⟩):=by
 rw[aops_un];exact aop_pure h
theorem AOp_move:AOps P m ops K (⟨d,.move x,ty,pos,af,none⟩::rest) σ=AOps P m ops K rest (σ.put d (evalT P ty σ x)):=(aops_pure rfl).trans ex_some
theorem AOp_assign:AOps P m ops K (⟨d,.assign x,ty,pos,af,none⟩::rest) σ=AOps P m ops K rest (σ.put d (evalT P ty σ x)):=(aops_pure rfl).trans ex_some
def pickO (t a b:V):Option V :=
 match t with
 | .d (.bool t)=>some (pickV t a b)
 | _=>none
theorem AOp_pick:AOps P m ops K (⟨d,.pick x y z,ty,pos,af,none⟩::rest) σ=nextO P m ops K rest σ d (pickO (σ.eval x) (σ.eval y) (σ.eval z)):=aops_pure rfl
theorem AOp_binOp {op:BinOp}:AOps P m ops K (⟨d,.binOp op t x y s,ty,pos,af,none⟩::rest) σ=nextO P m ops K rest σ d (abinS P σ.slots t op (σ.eval x) (σ.eval y)):=aops_pure rfl
theorem AOp_unOp {op:UnOp}:AOps P m ops K (⟨d,.unOp op t x,ty,pos,af,none⟩::rest) σ=nextO P m ops K rest σ d (aun op (σ.eval x)):=aops_pure rfl
def convO (P:Program) (s t:TypeId) (x:V):Option V :=
 match P.underlying s,P.underlying t,x with
 | some _,some (.int k),.d (.int _ n)=>some (V.d (.int k (k.wrap n)))
 | _,_,_=>none
theorem AOp_convert:AOps P m ops K (⟨d,.convert s t x,ty,pos,af,none⟩::rest) σ=nextO P m ops K rest σ d (convO P s t (σ.eval x)):=aops_pure rfl
def lenO (P:Program) (t:TypeId) (sl:List Slot) (x:V):Option V :=
 match elemOf P t with
 | some _=>(lenV sl x).map fun (n:Nat)=>V.d (.int .i64 (n:Int))
 | none=>none
theorem AOp_len:AOps P m ops K (⟨d,.call ⟨.builtin .len,#[x],#[t]⟩,ty,pos,af,none⟩::rest) σ=nextO P m ops K rest σ d (lenO P t σ.slots (σ.eval x)):=aops_pure rfl
def maxO (x y:V):Option V :=
 match [x,y] with
 | [.d (.int k a),.d (.int _ b)]=>some (V.d (.int k (if b > a then b else a)))
 | _=>none
def minO (x y:V):Option V :=
 match [x,y] with
 | [.d (.int k a),.d (.int _ b)]=>some (V.d (.int k (if b<a then b else a)))
 | _=>none
theorem AOp_max {ts:Array TypeId}:AOps P m ops K (⟨d,.call ⟨.builtin .max,#[x,y],ts⟩,ty,pos,af,none⟩::rest) σ=nextO P m ops K rest σ d (maxO (σ.eval x) (σ.eval y)):=aops_pure rfl
theorem AOp_min {ts:Array TypeId}:AOps P m ops K (⟨d,.call ⟨.builtin .min,#[x,y],ts⟩,ty,pos,af,none⟩::rest) σ=nextO P m ops K rest σ d (minO (σ.eval x) (σ.eval y)):=aops_pure rfl
def idxO (P:Program) (t:TypeId) (sl:List Slot) (x i:V):Option V :=
 match intOf? i with
 | some n=>indexV P t sl x n
 | none=>none
theorem AOp_indexAddr:AOps P m ops K (⟨d,.indexAddr t x y,ty,pos,af,none⟩::rest) σ=nextO P m ops K rest σ d (idxO P t σ.slots (σ.eval x) (σ.eval y)):=aops_pure rfl
theorem AOp_load:AOps P m ops K (⟨d,.load t x,ty,pos,af,none⟩::rest) σ=nextO P m ops K rest σ d (loadV P m.st t σ.slots (σ.eval x)):=aops_pure rfl
theorem AOp_fieldAddr:AOps P m ops K (⟨d,.fieldAddr t x f,ty,pos,af,none⟩::rest) σ=nextO P m ops K rest σ d (fieldAddrV P t σ.slots (σ.eval x) f):=aops_pure rfl
theorem AOp_field:AOps P m ops K (⟨d,.field t x f,ty,pos,af,none⟩::rest) σ=nextO P m ops K rest σ d (fieldV P t (σ.eval x) f):=aops_pure rfl
def extO (x:V) (i:Nat):Option V :=
 match x with
 | .tup xs=>xs[i]?
 | _=>none
theorem AOp_extract:AOps P m ops K (⟨d,.extract x f,ty,pos,af,none⟩::rest) σ=nextO P m ops K rest σ d (extO (σ.eval x) f):=aops_pure rfl
def nilO (sl:List Slot) (x:V):Option V :=
 match x with
 | .ptr s p=>match sl[s]? with
   | some (.var _ _)=>some (V.ptr s p)
   | _=>none
 | .cptr ds=>some (.cptr ds)
 | _=>none
theorem AOp_nilCheck:AOps P m ops K (⟨d,.nilCheck x,ty,pos,af,none⟩::rest) σ=nextO P m ops K rest σ d (nilO σ.slots (σ.eval x)):=aops_pure rfl
def buildA (P:Program) (e:TypeId) (z:List V) (ps:List (Nat×V)):Option V:=(fillV (fun i=>some (i*P.cellsOf e,P.cellsOf e)) z ps).map .agg
def buildO (P:Program) (t:TypeId) (ps:List (Nat×V)):Option V :=
 match P.underlying t,zeroV P t with
 | some (.struct _),some z=>(fillV (placeOf P t) z ps).map .agg
 | some (.array _ e),some z=>buildA P e z ps
 | _,_=>none
theorem AOp_build {ps:Array (Nat×Operand)}:AOps P m ops K (⟨d,.build t ps,ty,pos,af,none⟩::rest) σ=nextO P m ops K rest σ d (buildO P t (ps.toList.map fun p=>(p.1,σ.eval p.2))):=aops_pure rfl
def nextZ (P:Program) (m:Mode) (ops:Array Oper) (K:St→Prop) (rest:List Oper) (σ:St) (d:Option Tmp) (t:TypeId) (v:Option (List V)):Prop:=∃ z,v=some z∧AOps P m ops K rest (St.put ⟨σ.tmps,σ.slots++[.var t z]⟩ d (.ptr σ.slots.length 0))
theorem nextZ_some {v:List V}:nextZ P m ops K rest σ d t (some v)=AOps P m ops K rest (St.put ⟨σ.tmps,σ.slots++[.var t v]⟩ d (.ptr σ.slots.length 0)):=by
 apply propext
 constructor
 · rintro⟨x,h,hk⟩;cases h;exact hk
 · exact fun h=>⟨v,rfl,h⟩
theorem AOp_alloc:AOps P m ops K (⟨d,.alloc t,ty,pos,af,none⟩::rest) σ=nextZ P m ops K rest σ d t (zeroV P t):=by
 rw[aops_un]
 apply propext
 constructor
 · rintro⟨x,news,⟨z,h1,rfl,rfl⟩,h2⟩;exact⟨z,h1,h2⟩
 · rintro⟨z,h1,h2⟩;exact⟨_,_,⟨z,h1,rfl,rfl⟩,h2⟩
theorem AOp_box:AOps P m ops K (⟨d,.box t x,ty,pos,af,none⟩::rest) σ=((cellsV (σ.eval x)).all V.cell=true∧AOps P m ops K rest (St.put ⟨σ.tmps,σ.slots++[.var t (cellsV (σ.eval x))]⟩ d (.ptr σ.slots.length 0))):=by
 rw[aops_un]
 apply propext
 constructor
 · rintro⟨y,news,⟨h1,rfl,rfl⟩,h2⟩;exact⟨h1,h2⟩
 · rintro⟨h1,h2⟩;exact⟨_,_,⟨h1,rfl,rfl⟩,h2⟩
def afterCall (P:Program) (m:Mode) (ops:Array Oper) (K:St→Prop) (rest:List Oper) (σ:St) (d:Option Tmp) (r:X):Prop:=AOps P m ops K rest (St.put ⟨σ.tmps,σ.slots++(inst σ.slots.length r).2⟩ d (inst σ.slots.length r).1)
def callG (P:Program) (m:Mode) (ops:Array Oper) (K:St→Prop) (rest:List Oper) (σ:St) (d:Option Tmp) (fn:FuncId) (p:Option (List X)) (xs:List V):Prop :=
 (∃ r,CallA P fn p r∧afterCall P m ops K rest σ d r)∨(CallT P m σ.slots fn xs (fun z sl'=>AOps P m ops K rest (St.put ⟨σ.tmps,sl'⟩ d z))∨CallS P m σ.slots fn xs fun z sl'=>AOps P m ops K rest (St.put ⟨σ.tmps,sl'⟩ d z))
def callV (P:Program) (m:Mode) (ops:Array Oper) (K:St→Prop) (rest:List Oper) (σ:St) (d:Option Tmp) (v:V) (xs:List V):Prop :=
 match v with
 | .fn f caps=>callG P m ops K rest σ d f (presAll σ.slots (xs++caps)) (xs++caps)
 | _=>False
theorem callV_fn {f:FuncId} {caps xs:List V}:callV P m ops K rest σ d (.fn f caps) xs=callG P m ops K rest σ d f (presAll σ.slots (xs++caps)) (xs++caps):=rfl
theorem AOp_callv {v:Operand} {args:Array Operand} {ts:Array TypeId}:AOps P m ops K (⟨d,.call ⟨.value v,args,ts⟩,ty,pos,af,none⟩::rest) σ=callV P m ops K rest σ d (σ.eval v) (args.toList.map σ.eval):=by
 rw[aops_un]
 unfold callV callG afterCall
 show ((∃ x news,AQ P m.st σ.slots.length σ _ x news∧_)∨(match σ.eval v with | .fn f caps=>_|_=>False))=_
 unfold AQ
 simp only
 generalize σ.eval v=g
 cases g with
 | fn f caps =>
   simp only
   apply propext
   constructor
   · rintro (⟨y,news,⟨r,h1,rfl,rfl⟩,h2⟩|h)
     · exact .inl ⟨r,h1,h2⟩
     · exact .inr h
   · rintro (⟨r,h1,h2⟩|h)
     · exact .inl ⟨_,_,⟨r,h1,rfl,rfl⟩,h2⟩
     · exact .inr h
 | _=>simp
theorem AOp_call {fn:FuncId} {args:Array Operand} {ts:Array TypeId}:AOps P m ops K (⟨d,.call ⟨.value (.func fn),args,ts⟩,ty,pos,af,none⟩::rest) σ=callG P m ops K rest σ d fn (presAll σ.slots (args.toList.map σ.eval)) (args.toList.map σ.eval):=by
 rw[AOp_callv]
 show callV P m ops K rest σ d (.fn fn []) _=_
 rw[callV_fn,List.append_nil]
theorem call_step {fn:FuncId} {xs:List X} {ys:List V} {r:X} (h:ConC P fn xs r) (h2:afterCall P m ops K rest σ d r):callG P m ops K rest σ d fn (some xs) ys:=.inl ⟨r,callA h,h2⟩
def enterT (sl:List Slot) (ks π:List Nat) (xs args:List V) (slc:List Slot):Prop :=
 lives slc∧ks.Nodup∧arrsOk sl ks∧π.Nodup∧leSlots true (kill ks sl) π π slc∧leTmps true (kill ks sl) π (xs.map (viewV sl ks)) args
def afterT (P:Program) (m:Mode) (ops:Array Oper) (K:St→Prop) (rest:List Oper) (T:List V) (d:Option Tmp) (sl:List Slot) (π:List Nat) (r':Option V) (ys:Option (List Slot)):Prop :=
 ∃ r ys',r'=some r∧ys=some ys'∧AOps P m ops K rest (St.put ⟨T,setAll sl π (ys'.take π.length)++ys'.drop π.length⟩ d r)
theorem afterT_some {T:List V} {sl:List Slot} {π:List Nat} {r:V} {ys:List Slot}:afterT P m ops K rest T d sl π (some r) (some ys)=AOps P m ops K rest (St.put ⟨T,setAll sl π (ys.take π.length)++ys.drop π.length⟩ d r):=by
 apply propext
 constructor
 · rintro⟨_,_,h1,h2,h⟩;cases h1;cases h2;exact h
 · exact fun h=>⟨_,_,rfl,rfl,h⟩
theorem callT_step {n:Nat} {fn:FuncId} {p:Option (List X)} {xs args:List V} {slc slc':List Slot} {r:V} (h:ConT P fn args slc r slc') (ks π:List Nat) (he:enterT σ.slots ks π xs args slc)
 (ha:afterT P ⟨n,false,true,dr⟩ ops K rest σ.tmps d (kill ks σ.slots) π (renT (π++List.range' (kill ks σ.slots).length (slc'.length - π.length)) r) (renSs (π++List.range' (kill ks σ.slots).length (slc'.length - π.length)) slc')):callG P ⟨n,false,true,dr⟩ ops K rest σ d fn p xs:=by
 obtain⟨h1,h2,h3,h4,h5,h6⟩:=he
 obtain⟨r',ys,k1,k2,k3⟩:=ha
 exact .inr (.inl ⟨rfl,rfl,ks,π,args,slc,r,slc',h,h1,h2,h3,h4,h5,h6,r',ys,k1,k2,k3⟩)
theorem callC_step {n:Nat} {b:Bool} {N:List (Nat×List Nat)} {sl0:List Slot} {ns:List Nat} {T:List (Oper×List Nat)} {fn:FuncId} {xs near args:List V} {slc slc':List Slot} {r:V} (h:ConT P fn args slc r slc') (ks π:List Nat) (he:enterT σ.slots ks π xs args slc) (hn:∀ k∈ks++π,nearTo σ.slots near k)
 (ha:afterC P ⟨n,false,b,dr⟩ ops N sl0 K ns T σ.tmps d (kill ks σ.slots) π (renT (π++List.range' (kill ks σ.slots).length (slc'.length - π.length)) r) (renSs (π++List.range' (kill ks σ.slots).length (slc'.length - π.length)) slc')):callCG P ⟨n,false,b,dr⟩ ops N sl0 K ns T σ d fn xs near:=by
 obtain⟨h1,h2,h3,h4,h5,h6⟩:=he
 obtain⟨r',ys,k1,k2,k3⟩:=ha
 exact⟨rfl,ks,π,args,slc,r,slc',h,h1,h2,h3,h4,h5,h6,hn,r',ys,k1,k2,k3⟩
def partO (P:Program) (t:TypeId) (σ:St) (x:V) (lo hi:Option Operand):Option V :=
 match lenV σ.slots x with
 | some n=>partV P t x (boundV σ lo 0) (boundV σ hi n)
 | none=>none
def sliceL (P:Program) (t:TypeId) (σ:St) (s:Nat) (lo hi:Option Operand):Option (V×List Slot) :=
 match lenV σ.slots (.ref s) with
 | some n=>sliceT P t σ.slots s lo hi (boundV σ lo 0) (boundV σ hi n)
 | none=>none
def nextT (P:Program) (m:Mode) (ops:Array Oper) (K:St→Prop) (rest:List Oper) (σ:St) (d:Option Tmp) (v:Option (V×List Slot)):Prop:=m.tc=true∧m.st=false∧∃ z sl',v=some (z,sl')∧AOps P m ops K rest (St.put ⟨σ.tmps,sl'⟩ d z)
theorem nextT_some {z:V} {sl':List Slot}:nextT P m ops K rest σ d (some (z,sl'))=(m.tc=true∧m.st=false∧AOps P m ops K rest (St.put ⟨σ.tmps,sl'⟩ d z)):=by
 apply propext
 constructor
 · rintro⟨h1,h2,_,_,h,hk⟩;cases h;exact⟨h1,h2,hk⟩
 · exact fun ⟨h1,h2,h⟩=>⟨h1,h2,_,_,rfl,h⟩
def sliceO (P:Program) (m:Mode) (ops:Array Oper) (K:St→Prop) (rest:List Oper) (σ:St) (d:Option Tmp) (t:TypeId) (x:V) (lo hi:Option Operand):Prop :=
 match x with
 | .ref s=>nextT P m ops K rest σ d (sliceL P t σ s lo hi)
 | x=>nextO P m ops K rest σ d (partO P t σ x lo hi)
theorem AOp_slice {lo hi:Option Operand}:AOps P m ops K (⟨d,.slice t x lo hi none,ty,pos,af,none⟩::rest) σ=sliceO P m ops K rest σ d t (σ.eval x) lo hi:=by
 rw[aops_un]
 unfold sliceO
 have quiet:∀ v,σ.eval x=v→(∃ z news,AQ P m.st σ.slots.length σ ⟨d,.slice t x lo hi none,ty,pos,af,none⟩ z news∧AOps P m ops K rest (St.put ⟨σ.tmps,σ.slots++news⟩ d z))=nextO P m ops K rest σ d (partO P t σ v lo hi):=by
  rintro v rfl
  unfold nextO
  apply propext
  constructor
  · rintro⟨z,news,⟨h1,rfl⟩,h2⟩
    rw[List.append_nil] at h2
    exact⟨z,h1,h2⟩
  · rintro⟨z,h1,h2⟩
    exact⟨z,[],⟨h1,rfl⟩,by rw[List.append_nil];exact h2⟩
 cases hv:σ.eval x with
 | ref s =>
   show (match σ.eval x with | .ref s=>_|_=>_)=_
   rw[hv]
   simp only
   unfold nextT sliceL
   apply propext
   constructor
   · rintro⟨h1,h2,n,z,sl',h3,h4,h5⟩
     refine⟨h1,h2,z,sl',?_,h5⟩
     rw[h3]
     exact h4
   · rintro⟨h1,h2,z,sl',h3,h4⟩
     split at h3
     · rename_i n hn
       exact⟨h1,h2,n,z,sl',hn,h3,h4⟩
     · cases h3
 | _ =>
   show (match σ.eval x with | .ref s=>_|_=>_)=_
   rw[hv]
   simp only
   exact quiet _ hv
def funcO (f:FuncId) (first:Array Operand) (caps:List V):Option V:=if first.isEmpty=true then some (.fn f caps) else none
theorem AOp_makeFunc {fn:FuncId} {first caps:Array Operand}:AOps P m ops K (⟨d,.makeFunc (.func fn) first caps,ty,pos,af,none⟩::rest) σ=nextO P m ops K rest σ d (funcO fn first (caps.toList.map σ.eval)):=aops_pure rfl
def nextS (P:Program) (m:Mode) (ops:Array Oper) (K:St→Prop) (rest:List Oper) (σ:St) (d:Option Tmp) (v:Option (List Slot)):Prop:=∃ sl',v=some sl'∧AOps P m ops K rest (St.put ⟨σ.tmps,sl'⟩ d .any)
theorem nextS_some {v:List Slot}:nextS P m ops K rest σ d (some v)=AOps P m ops K rest (St.put ⟨σ.tmps,v⟩ d .any):=by
 apply propext
 constructor
 · rintro⟨x,h,hk⟩;cases h;exact hk
 · exact fun h=>⟨v,rfl,h⟩
def lookG (P:Program) (m:Mode) (ops:Array Oper) (K:St→Prop) (rest:List Oper) (σ:St) (d:Option Tmp) (t:TypeId) (ok:Bool) (q:Option (Nat×TypeId×List (Ky×Vl))) (k:Option Ky) (z:Option Vl):Prop :=
 ∃ s es ky z',q=some (s,t,es)∧k=some ky∧z=some z'∧KeyIn P t ky∧AOps P m ops K rest (σ.put d (lookV ok (getM es ky) z'))
theorem lookG_some {ok:Bool} {s:Nat} {t':TypeId} {es:List (Ky×Vl)} {ky:Ky} {z:Vl}:lookG P m ops K rest σ d t ok (some (s,t',es)) (some ky) (some z)=(t'=t∧KeyIn P t ky∧AOps P m ops K rest (σ.put d (lookV ok (getM es ky) z))):=by
 apply propext
 constructor
 · rintro⟨_,_,_,_,h1,h2,h3,h4,h5⟩;cases h1;cases h2;cases h3;exact⟨rfl,h4,h5⟩
 · rintro⟨rfl,h4,h5⟩;exact⟨_,_,_,_,rfl,rfl,rfl,h4,h5⟩
theorem AOp_lookup {ok:Bool}:AOps P m ops K (⟨d,.lookup t x y ok,ty,pos,af,none⟩::rest) σ=lookG P m ops K rest σ d t ok (mapV σ.slots (σ.eval x)) (kyOf (σ.eval y)) (zeroVl P t):=by
 rw[aops_un]
 apply propext
 constructor
 · rintro⟨v,news,⟨s,es,ky,z,h1,h2,h3,h4,rfl,rfl⟩,h6⟩
   rw[List.append_nil] at h6
   exact⟨s,es,ky,z,h1,h2,h3,h4,h6⟩
 · rintro⟨s,es,ky,z,h1,h2,h3,h4,h6⟩
   exact⟨_,[],⟨s,es,ky,z,h1,h2,h3,h4,rfl,rfl⟩,by rw[List.append_nil];exact h6⟩
theorem AOp_makeMap:AOps P m ops K (⟨d,.makeMap t none,ty,pos,af,none⟩::rest) σ=AOps P m ops K rest (St.put ⟨σ.tmps,σ.slots++[.blk (.mp t [])]⟩ d (.ref σ.slots.length)):=by
 rw[aops_un]
 apply propext
 constructor
 · rintro⟨v,news,⟨rfl,rfl⟩,h6⟩;exact h6
 · exact fun h=>⟨_,_,⟨rfl,rfl⟩,h⟩
def updG (P:Program) (m:Mode) (ops:Array Oper) (K:St→Prop) (rest:List Oper) (σ:St) (d:Option Tmp) (t:TypeId) (q:Option (Nat×TypeId×List (Ky×Vl))) (k:Option Ky) (v:Option Vl):Prop :=
 m.tc=true∧∃ s es ky v',q=some (s,t,es)∧k=some ky∧v=some v'∧KeyIn P t ky∧AOps P m ops K rest (St.put ⟨σ.tmps,σ.slots.set s (.blk (.mp t (setM es ky v')))⟩ d .any)
theorem updG_some {s:Nat} {t':TypeId} {es:List (Ky×Vl)} {ky:Ky} {v:Vl}:updG P m ops K rest σ d t (some (s,t',es)) (some ky) (some v)=(m.tc=true∧t'=t∧KeyIn P t ky∧AOps P m ops K rest (St.put ⟨σ.tmps,σ.slots.set s (.blk (.mp t (setM es ky v)))⟩ d .any)):=by
 apply propext
 constructor
 · rintro⟨h0,_,_,_,_,h1,h2,h3,h4,h5⟩;cases h1;cases h2;cases h3;exact⟨h0,rfl,h4,h5⟩
 · rintro⟨h0,rfl,h4,h5⟩;exact⟨h0,_,_,_,_,rfl,rfl,rfl,h4,h5⟩
theorem AOp_mapUpdate:AOps P m ops K (⟨d,.mapUpdate t x y z,ty,pos,af,none⟩::rest) σ=updG P m ops K rest σ d t (mapV σ.slots (σ.eval x)) (kyOf (σ.eval y)) (vlOf (σ.eval z)):=rfl
theorem AOp_store:AOps P m ops K (⟨d,.store t x y,ty,pos,af,none⟩::rest) σ=nextS P m ops K rest σ d (storeV P m.st t σ.slots (σ.eval x) (evalT P t σ y)):=rfl
def appO (P:Program) (m:Mode) (ops:Array Oper) (K:St→Prop) (rest:List Oper) (σ:St) (d:Option Tmp) (t:TypeId) (x y:V):Prop:=AAppX P m σ.slots t x y fun z sl'=>AOps P m ops K rest (St.put ⟨σ.tmps,sl'⟩ d z)
theorem AOp_append:AOps P m ops K (⟨d,.call ⟨.builtin .append,#[x,y],#[t,t]⟩,ty,pos,af,none⟩::rest) σ=appO P m ops K rest σ d t (evalT P t σ x) (evalT P t σ y):=by
 rw[aops_un]
 show (t=t∧_)=_
 simp only[true_and]
 rfl
def nextL (P:Program) (m:Mode) (ops:Array Oper) (K:St→Prop) (rest:List Oper) (σ:St) (d:Option Tmp) (v:Option (V×Slot)):Prop:=∃ x y,v=some (x,y)∧AOps P m ops K rest (St.put ⟨σ.tmps,σ.slots++[y]⟩ d x)
theorem nextL_some {v:V} {y:Slot}:nextL P m ops K rest σ d (some (v,y))=AOps P m ops K rest (St.put ⟨σ.tmps,σ.slots++[y]⟩ d v):=by
 apply propext
 constructor
 · rintro⟨x,y,h,hk⟩;cases h;exact hk
 · exact fun h=>⟨v,y,rfl,h⟩
def litC (n:Nat) (e:TypeId) (s len:Nat) (cells:List V):V×Slot :=
 match plains cells with
 | some ds=>(.ref n,.arr e (cells.all scalarV) (chunks s len ds))
 | none=>(.lit n len,.var e cells)
def litO (P:Program) (n:Nat) (t:TypeId) (len:Nat) (ps:List (Nat×V)):Option (V×Slot) :=
 match elemOf P t with
 | none=>none
 | some e=>match zeroV P e with
   | none=>none
   | some z=>if len*z.length≤16777216∧len≤9223372036854775807 then (fillV (fun i=>some (i*z.length,z.length)) (List.replicate len z).flatten ps).map (litC n e z.length len) else none
theorem litO_eq {n t len:Nat} {ps:List (Nat×V)}:litV P σ n t len ps=litO P n t len ps:=by
 unfold litV litO
 cases he:elemOf P t with
 | none=>rfl
 | some e =>
   simp only
   cases hz:zeroV P e with
   | none=>rfl
   | some z =>
     simp only
     split
     · cases hf:fillV (fun i=>some (i*z.length,z.length)) (List.replicate len z).flatten ps with
       | none=>rfl
       | some cells=>simp only[Option.map_some,litC];cases plains cells<;>rfl
     · rfl
def adoptO (P:Program) (b:Bool) (sl:List Slot) (t:TypeId) (len:Nat) (ps:List (Nat×V)):Option (Slot×List Nat) :=
 if b=true then
  match elemOf P t with
  | none=>none
  | some e=>match zeroV P e with
    | none=>none
    | some z=>if len*z.length≤16777216∧len≤9223372036854775807 then (fillV (fun i=>some (i*z.length,z.length)) (List.replicate len z).flatten ps).bind (adoptC e z.length len sl) else none
 else none
theorem adoptO_eq {b:Bool} {sl:List Slot} {t len:Nat} {ps:List (Nat×V)}:adoptV P b sl t len ps=adoptO P b sl t len ps:=by
 unfold adoptV adoptO
 cases b with
 | false=>rfl
 | true =>
   simp only[if_true]
   cases he:elemOf P t with
   | none=>rfl
   | some e =>
     simp only
     cases hz:zeroV P e with
     | none=>rfl
     | some z =>
       simp only
       split
       · cases hf:fillV (fun i=>some (i*z.length,z.length)) (List.replicate len z).flatten ps<;>rfl
       · rfl
def nextB (P:Program) (m:Mode) (ops:Array Oper) (K:St→Prop) (rest:List Oper) (σ:St) (d:Option Tmp) (q:Option (Slot×List Nat)) (v:Option (V×Slot)):Prop :=
 match q with
 | some (y,ks)=>AOps P m ops K rest (St.put ⟨σ.tmps,kill ks σ.slots++[y]⟩ d (.ref σ.slots.length))
 | none=>nextL P m ops K rest σ d v
theorem nextB_some {y:Slot} {ks:List Nat} {v:Option (V×Slot)}:nextB P m ops K rest σ d (some (y,ks)) v=AOps P m ops K rest (St.put ⟨σ.tmps,kill ks σ.slots++[y]⟩ d (.ref σ.slots.length)):=rfl
theorem nextB_none {v:Option (V×Slot)}:nextB P m ops K rest σ d none v=nextL P m ops K rest σ d v:=rfl
@[congr] theorem nextB_congr {q q':Option (Slot×List Nat)} {v:Option (V×Slot)} (h:q=q'):nextB P m ops K rest σ d q v=nextB P m ops K rest σ d q' v:=by rw[h]
theorem AOp_buildSlice {ps:Array (Nat×Operand)}:AOps P m ops K (⟨d,.buildSlice t n ps,ty,pos,af,none⟩::rest) σ=nextB P m ops K rest σ d (adoptO P (m.tc&&!m.st) σ.slots t n (ps.toList.map fun p=>(p.1,σ.eval p.2))) (litO P σ.slots.length t n (ps.toList.map fun p=>(p.1,σ.eval p.2))):=by
 rw[aops_un]
 unfold AOp
 simp only
 rw[adoptO_eq]
 split
 · rename_i hq
   rw[hq]
   rfl
 · rename_i hq
   rw[hq]
   apply propext
   constructor
   · rintro⟨x,news,⟨y,h1,rfl⟩,h2⟩;exact⟨x,y,litO_eq (σ:=σ)▸h1,h2⟩
   · rintro⟨x,y,h1,h2⟩;exact⟨_,_,⟨y,by rw[litO_eq];exact h1,rfl⟩,h2⟩
def makeO (P:Program) (t:TypeId) (x y:V):Option (Int×Int×TypeId×List D) :=
 match elemOf P t,intOf? x,intOf? y with
 | some e,some m,some m'=>match zeroV P e with
   | some z=>match plains z with
     | some zd=>if z.all scalarV=true∧P.bytesOf e≤128 then some (m,m',e,zd) else none
     | none=>none
   | none=>none
 | _,_,_=>none
def nextM (P:Program) (m:Mode) (ops:Array Oper) (K:St→Prop) (rest:List Oper) (σ:St) (d:Option Tmp) (v:Option (Int×Int×TypeId×List D)):Prop:=∃ q e zd,v=some (q,q,e,zd)∧(0≤q∧q≤1099511627776)∧AOps P m ops K rest (St.put ⟨σ.tmps,σ.slots++[.arr e true (List.replicate q.toNat zd)]⟩ d (.ref σ.slots.length))
theorem nextM_some {q:Int} {e:TypeId} {zd:List D}:nextM P m ops K rest σ d (some (q,q,e,zd))=((0≤q∧q≤1099511627776)∧AOps P m ops K rest (St.put ⟨σ.tmps,σ.slots++[.arr e true (List.replicate q.toNat zd)]⟩ d (.ref σ.slots.length))):=by
 apply propext
 constructor
 · rintro⟨q,e,zd,h,hk⟩;cases h;exact hk
 · exact fun h=>⟨q,e,zd,rfl,h⟩
theorem AOp_makeSlice:AOps P m ops K (⟨d,.makeSlice t x y,ty,pos,af,none⟩::rest) σ=nextM P m ops K rest σ d (makeO P t (σ.eval x) (σ.eval y)):=by
 rw[aops_un]
 apply propext
 constructor
 · rintro⟨x,news,⟨e,z,zd,q,h1,h2,h3,h4,h5,h6,h7,h8,h9,rfl,rfl⟩,h10⟩
   refine⟨q,e,zd,?_,⟨h7,h8⟩,h10⟩
   unfold makeO
   rw[h1,h5,h6]
   simp only[h2,h3]
   rw[if_pos ⟨h4,h9⟩]
 · rintro⟨q,e,zd,h,⟨h7,h8⟩,h10⟩
   unfold makeO at h
   split at h
   · rename_i e' m1 m2 h1 h5 h6
     split at h
     · rename_i z h2
       split at h
       · rename_i zd' h3
         split at h
         · rename_i h4
           cases h
           exact⟨_,_,⟨e,z,zd,q,h1,h2,h3,h4.1,h5,h6,h7,h8,h4.2,rfl,rfl⟩,h10⟩
         · cases h
       · cases h
     · cases h
   · cases h
def guardG (P:Program) (m:Mode) (ops:Array Oper) (K:St→Prop) (o:Oper) (rest:List Oper) (σ:St) (dj:Nat) (b:Bool) (v:V):Prop :=
 match v with
 | .d (.bool t)=>condB (t==b) (AOps P m ops K (o::rest) (σ.put (some dj) (.d (.bool b)))) (AOps P m ops K rest ((σ.put (some dj) (.d (.bool (!b)))).put o.dst (.tup [])))
 | .tup []=>AOps P m ops K rest (σ.put o.dst (.tup []))
 | _=>False
theorem guardG_bool {o:Oper} {dj:Nat} {b t:Bool}:guardG P m ops K o rest σ dj b (.d (.bool t))=condG (t==b) (AOps P m ops K (o::rest) (σ.put (some dj) (.d (.bool b)))) (AOps P m ops K rest ((σ.put (some dj) (.d (.bool (!b)))).put o.dst (.tup []))):=rfl
theorem guardG_undef {o:Oper} {dj:Nat} {b:Bool}:guardG P m ops K o rest σ dj b (.tup [])=AOps P m ops K rest (σ.put o.dst (.tup [])):=rfl
def guardD (P:Program) (m:Mode) (ops:Array Oper) (K:St→Prop) (o:Oper) (rest:List Oper) (σ:St) (b:Bool) (dj:Option Nat):Prop :=
 match dj with
 | some d=>guardG P m ops K o rest σ d b (σ.get d)
 | none=>False
theorem guardD_some {o:Oper} {dj:Nat} {b:Bool}:guardD P m ops K o rest σ b (some dj)=guardG P m ops K o rest σ dj b (σ.get dj):=rfl
theorem AOp_guard {op:Op} {j:Nat} {b:Bool}:AOps P m ops K (⟨d,op,ty,pos,af,some (j,b)⟩::rest) σ=guardD P m ops K ⟨d,op,ty,pos,af,none⟩ rest σ b ((ops[j]?).bind (·.dst)):=by
 have e:∀ σ',AOps P m ops K (⟨d,op,ty,pos,af,none⟩::rest) σ'=AOp P m ⟨d,op,ty,pos,af,some (j,b)⟩ (AOps P m ops K rest) σ':=fun σ'=>rfl
 unfold guardD
 conv=>lhs;unfold AOps
 simp only
 cases hd:(ops[j]?).bind (·.dst) with
 | none=>rfl
 | some dj =>
   simp only
   unfold guardG
   cases hv:σ.get dj with
   | d x=>cases x with
     | bool t =>
       simp only[condB,e]
       cases t<;>cases b<;>simp
     | _=>rfl
   | tup xs=>cases xs<;>rfl
   | _=>rfl
end
def Round {ι:Type} (m:Mode) (I:ι→Prop) (S:ι→St) (μ:ι→Nat) (i:ι) (σ':St):Prop:=∃ j,I j∧μ j<μ i∧Le m σ' (S j)
theorem aw_loop {c:Code} {ι:Type} (I:ι→Prop) (S:ι→St) (μ:ι→Nat) (i0:ι) (h0:I i0) (hle:Le m σ (S i0)) (hr:∀ i,I i→AWp P m c (thenA (Round m I S μ i) Q) (S i)):AWp P m (.loop c) Q σ :=
 ⟨ι,I,S,μ,i0,h0,hle,hr⟩
end
def frame (n:Nat) (l:List (Nat×V)):List V:=l.foldl (fun T p=>T.set p.1 p.2) (List.replicate n .any)
theorem wrap_id {x:Int} (h1:-9223372036854775808≤x) (h2:x≤9223372036854775807):IntKind.i64.wrap x=x:=by rw[IntKind.wrap_i64];omega
theorem nat_neg (k:Nat):((k:Int)<0)=False:=by
 apply propext;constructor
 · intro h;omega
 · exact False.elim
def rng (n lo hi:Int):Bool:=decide (lo≤n)&&decide (n≤hi)
theorem take_snoc' {α:Type} {xs:List α} {k:Nat} {x:α} (hx:xs[k]? = some x):xs.take (k+1)=xs.take k++[x]:=by
 obtain⟨hk,rfl⟩:=List.getElem?_eq_some_iff.1 hx
 exact List.take_succ_eq_append_getElem hk
theorem all_snoc' {α:Type} {xs:List α} {p:α→Bool} {k:Nat} {x:α} (hx:xs[k]? = some x):(xs.take (k+1)).all p=((xs.take k).all p&&p x):=by
 rw[take_snoc' hx];simp
theorem all_not' {α:Type} {xs:List α} {p:α→Bool} {k:Nat} {x:α} (hx:xs[k]? = some x) (h:p x=false):xs.all p=false:=by
 rw[Bool.eq_false_iff,ne_eq,List.all_eq_true]
 intro hh
 have:=hh x (List.mem_of_getElem? hx)
 rw[h] at this
 cases this
theorem aw_loop' {P:Program} {m:Mode} {Q:Exit→St→Prop} {σ:St} {c:Code} {ι:Type} (I:ι→Prop) (S:ι→St) (μ:ι→Nat) (i0:ι) (h0:I i0) (hle:Le m σ (S i0))
 (hr:∀ (I':ι→Prop) (S':ι→St) (μ':ι→Nat),(∀ i,I' i↔I i)→(∀ i,S' i=S i)→(∀ i,μ' i=μ i)→∀ i,I i→AWp P m c (thenA (Round m I' S' μ' i) Q) (S i)):AWp P m (.loop c) Q σ :=
 aw_loop I S μ i0 h0 hle fun i hi=>hr I S μ (fun _=>Iff.rfl) (fun _=>rfl) (fun _=>rfl) i hi
theorem round_of {m:Mode} {ι:Type} {I I':ι→Prop} {S S':ι→St} {μ μ':ι→Nat} {i:ι} {σ':St} (hI:∀ i,I' i↔I i) (hS:∀ i,S' i=S i) (hμ:∀ i,μ' i=μ i) (j:ι) (h1:I j) (h2:μ j<μ i) (h3:Le m σ' (S j)):Round m I' S' μ' i σ' :=
 ⟨j,(hI j).2 h1,by rw[hμ,hμ];exact h2,by rw[hS];exact h3⟩
def keepT:List Bool→List V→List V
 | true::ms,x::xs=>x::keepT ms xs
 | false::ms,_::xs=>.any::keepT ms xs
 | _,xs=>xs
def sets {α:Type} (xs:List α):List (Nat×α)→List α
 | []=>xs
 | p::ps=>sets (xs.set p.1 p.2) ps
theorem aw_loopU {P:Program} {m:Mode} {Q:Exit→St→Prop} {c:Code} {T:List V} {sl0:List Slot} {ι:Type} (mask:List Bool) (I:ι→Prop) (upd:ι→List (Nat×V)) (usl:ι→List (Nat×Slot)) (μ:ι→Nat) (i0:ι) (h0:I i0)
 (hle:Le m ⟨T,sl0⟩ ⟨sets (keepT mask T) (upd i0),sets sl0 (usl i0)⟩)
 (hr:∀ (I':ι→Prop) (S':ι→St) (μ':ι→Nat),(∀ i,I' i↔I i)→(∀ i,S' i=⟨sets (keepT mask T) (upd i),sets sl0 (usl i)⟩)→(∀ i,μ' i=μ i)→∀ i,I i→AWp P m c (thenA (Round m I' S' μ' i) Q) ⟨sets (keepT mask T) (upd i),sets sl0 (usl i)⟩):AWp P m (.loop c) Q ⟨T,sl0⟩ :=
 aw_loop' I (fun i=>⟨sets (keepT mask T) (upd i),sets sl0 (usl i)⟩) μ i0 h0 hle hr
def shr64 (a b:Int):Int:=a.fdiv (2 ^ min b.toNat 64)
def shl64 (a b:Int):Int:=IntKind.i64.wrap (a*2 ^ min b.toNat 64)
def and64 (a b:Int):Int:=IntKind.i64.wrap (BitVec.ofInt 64 a &&& BitVec.ofInt 64 b).toNat
def or64 (a b:Int):Int:=IntKind.i64.wrap (BitVec.ofInt 64 a ||| BitVec.ofInt 64 b).toNat
def xor64 (a b:Int):Int:=IntKind.i64.wrap (BitVec.ofInt 64 a ^^^ BitVec.ofInt 64 b).toNat
def andn64 (a b:Int):Int:=IntKind.i64.wrap (BitVec.ofInt 64 a &&& ~~~BitVec.ofInt 64 b).toNat
section
variable {P:Program} {t:TypeId} {k k':IntKind} {a b:Int} {x y:Bool}
theorem abin_add:abin P t .add (.d (.int k a)) (.d (.int k b))=some (.d (.int k (k.wrap (a+b)))):=by simp[abin]
theorem abin_sub:abin P t .sub (.d (.int k a)) (.d (.int k b))=some (.d (.int k (k.wrap (a - b)))):=by simp[abin]
theorem abin_mul:abin P t .mul (.d (.int k a)) (.d (.int k b))=some (.d (.int k (k.wrap (a*b)))):=by simp[abin]
theorem abin_quo:abin P t .quo (.d (.int k a)) (.d (.int k b))=if b=0 then none else some (.d (.int k (k.wrap (a.tdiv b)))):=by simp[abin]
theorem abin_rem:abin P t .rem (.d (.int k a)) (.d (.int k b))=if b=0 then none else some (.d (.int k (a.tmod b))):=by simp[abin]
theorem abin_and:abin P t .and (.d (.int .i64 a)) (.d (.int .i64 b))=some (.d (.int .i64 (and64 a b))):=rfl
theorem abin_or:abin P t .or (.d (.int .i64 a)) (.d (.int .i64 b))=some (.d (.int .i64 (or64 a b))):=rfl
theorem abin_xor:abin P t .xor (.d (.int .i64 a)) (.d (.int .i64 b))=some (.d (.int .i64 (xor64 a b))):=rfl
theorem abin_andNot:abin P t .andNot (.d (.int .i64 a)) (.d (.int .i64 b))=some (.d (.int .i64 (andn64 a b))):=rfl
theorem abin_shl:abin P t .shl (.d (.int .i64 a)) (.d (.int k b))=if 0≤b then some (.d (.int .i64 (shl64 a b))) else none:=by simp[abin,shl64,IntKind.bits]
theorem abin_shr:abin P t .shr (.d (.int .i64 a)) (.d (.int k b))=if 0≤b then some (.d (.int .i64 (shr64 a b))) else none:=by simp[abin,shr64,IntKind.bits]
theorem abin_shlu:abin P t .shl (.d (.int .u64 a)) (.d (.int k b))=if 0≤b then some (.d (.int .u64 (IntKind.u64.wrap (a*2 ^ min b.toNat 64)))) else none:=by simp[abin,IntKind.bits]
theorem abin_eql:abin P t .eql (.d (.int k a)) (.d (.int k b))=some (.d (.bool (a==b))):=by simp[abin]
theorem abinS_d {sl:List Slot} {op:BinOp} {x:V} {y:D}:abinS P sl t op x (.d y)=abin P t op x (.d y):=rfl
theorem abinS_agg {sl:List Slot} {op:BinOp} {x:V} {ys:List V}:abinS P sl t op x (.agg ys)=abin P t op x (.agg ys):=rfl
theorem abin_eqb {a c:Int} {b d:Bool} (h:pairB P t=true):abin P t .eql (.agg [.d (.int .i64 a),.d (.bool b)]) (.agg [.d (.int .i64 c),.d (.bool d)])=some (.d (.bool (a==c&&b==d))):=by simp[abin,h]
theorem abin_eqp {a b c d:Int} (h:pairT P t=true):abin P t .eql (.agg [.d (.int .i64 a),.d (.int .i64 b)]) (.agg [.d (.int .i64 c),.d (.int .i64 d)])=some (.d (.bool (a==c&&b==d))):=by simp[abin,h]
theorem abin_neq:abin P t .neq (.d (.int k a)) (.d (.int k b))=some (.d (.bool (a != b))):=by simp[abin]
theorem abin_lss:abin P t .lss (.d (.int k a)) (.d (.int k b))=some (.d (.bool (decide (a<b)))):=by simp[abin]
theorem abin_leq:abin P t .leq (.d (.int k a)) (.d (.int k b))=some (.d (.bool (decide (a≤b)))):=by simp[abin]
theorem abin_gtr:abin P t .gtr (.d (.int k a)) (.d (.int k b))=some (.d (.bool (decide (a > b)))):=by simp[abin]
theorem abin_geq:abin P t .geq (.d (.int k a)) (.d (.int k b))=some (.d (.bool (decide (a≥b)))):=by simp[abin]
theorem abin_eqlb (h:P.underlying t=some .bool):abin P t .eql (.d (.bool x)) (.d (.bool y))=some (.d (.bool (x==y))):=by simp[abin,h]
theorem abin_neqb (h:P.underlying t=some .bool):abin P t .neq (.d (.bool x)) (.d (.bool y))=some (.d (.bool (!(x==y)))):=by simp[abin,h]
end
section
variable {P:Program} {m:Mode} {ops:Array Oper} {K:St→Prop} {rest:List Oper} {σ:St} {d:Option Tmp} {t e:TypeId} {dr:Bool}
theorem app4_data {sl:List Slot} {x y:V} {K:V→List Slot→Prop} {ow:Bool} {es es2:List (List D)} {ks:List Nat} {o:Option Nat} (he:elemOf P t=some e) (hb:baseV sl e x=some (ow,es,ks)) (hz:(zeroV P e).isSome=true∧P.cellsOf e≠0∧P.bytesOf e≤128)
 (hs:srcV sl y=some (es2,o)) (ho:∀ s,o=some s→s∉ks) (hc:∀ c∈es2,c.length=P.cellsOf e) (hl:es.length+es2.length≤1099511627776) (hf:ow=true→flatP es2) (hK:K (.ref sl.length) (kill ks sl++[.arr e ow (es++es2)])):AApp4 P sl t x y K :=
 ⟨e,ow,es,ks,he,hb,hz.1,hz.2.1,hz.2.2,.inl ⟨es2,o,hs,ho,hc,hl,hf,hK⟩⟩
theorem app_data {x y:V} {ow:Bool} {es es2:List (List D)} {ks:List Nat} {o:Option Nat} {n:Nat} {b:Bool} (he:elemOf P t=some e) (hb:baseV σ.slots e x=some (ow,es,ks)) (hz:(zeroV P e).isSome=true∧P.cellsOf e≠0∧P.bytesOf e≤128)
 (hs:srcV σ.slots y=some (es2,o)) (ho:∀ s,o=some s→s∉ks) (hc:∀ c∈es2,c.length=P.cellsOf e) (hl:es.length+es2.length≤1099511627776) (hf:ow=true→flatP es2)
 (hK:AOps P ⟨n,false,b,dr⟩ ops K rest (St.put ⟨σ.tmps,kill ks σ.slots++[.arr e ow (es++es2)]⟩ d (.ref σ.slots.length))):appO P ⟨n,false,b,dr⟩ ops K rest σ d t x y :=
 .inl ⟨rfl,.inl (app4_data he hb hz hs ho hc hl hf hK)⟩
theorem app_lit {x:V} {es:List (List D)} {ks:List Nat} {n:Nat} {b:Bool} {s2 q:Nat} {cells:List V} {ds:List D} {ks2:List Nat} (he:elemOf P t=some e) (hb:baseV σ.slots e x=some (true,es,ks)) (hz:(zeroV P e).isSome=true∧P.cellsOf e≠0∧P.bytesOf e≤128)
 (hs:σ.slots[s2]? = some (.var e cells)) (ht:takeC σ.slots cells=some (ds,ks2)) (hd:∀ k∈ks2,k∉ks) (hc:cells.length=q*P.cellsOf e) (hl:es.length+q≤1099511627776)
 (hK:AOps P ⟨n,false,b,dr⟩ ops K rest (St.put ⟨σ.tmps,kill (s2::(ks++ks2)) σ.slots++[.arr e true (es++chunks (P.cellsOf e) q ds)]⟩ d (.ref σ.slots.length))):appO P ⟨n,false,b,dr⟩ ops K rest σ d t x (.lit s2 q) :=
 .inl ⟨rfl,.inl ⟨e,true,es,ks,he,hb,hz.1,hz.2.1,hz.2.2,.inr (.inr (.inl ⟨s2,q,cells,ds,ks2,rfl,hs,ht,hd,hc,rfl,hl,hK⟩))⟩⟩
theorem app_row {x:V} {es es2:List (List D)} {ks:List Nat} {n:Nat} {b:Bool} {s2:Nat} (he:elemOf P t=some e) (hb:baseV σ.slots e x=some (true,es,ks)) (hz:(zeroV P e).isSome=true∧P.cellsOf e≠0∧P.bytesOf e≤128)
 (hs:σ.slots[s2]? = some (.arr e true es2)) (hd:s2∉ks) (hl:es.length+es2.length≤1099511627776)
 (hK:AOps P ⟨n,false,b,dr⟩ ops K rest (St.put ⟨σ.tmps,kill (s2::ks) σ.slots++[.arr e true (es++es2)]⟩ d (.ref σ.slots.length))):appO P ⟨n,false,b,dr⟩ ops K rest σ d t x (.ref s2) :=
 .inl ⟨rfl,.inl ⟨e,true,es,ks,he,hb,hz.1,hz.2.1,hz.2.2,.inr (.inl ⟨s2,es2,rfl,hs,hd,rfl,hl,hK⟩)⟩⟩
theorem app_frozen {x y:V} {ow:Bool} {es es2:List (List D)} {ks ks2:List Nat} {n:Nat} {b:Bool} {t':TypeId} (hfz:freezeV P σ.slots y=some (.sl t' es2,ks2)) (he:elemOf P t=some e) (hb:baseV (kill ks2 σ.slots) e x=some (ow,es,ks)) (hz:(zeroV P e).isSome=true∧P.cellsOf e≠0∧P.bytesOf e≤128)
 (hc:∀ c∈es2,c.length=P.cellsOf e) (hl:es.length+es2.length≤1099511627776)
 (hK:AOps P ⟨n,false,b,dr⟩ ops K rest (St.put ⟨σ.tmps,kill ks (kill ks2 σ.slots)++[.arr e false (es++es2)]⟩ d (.ref (kill ks2 σ.slots).length))):appO P ⟨n,false,b,dr⟩ ops K rest σ d t x y :=
 .inl ⟨rfl,.inr ⟨_,ks2,hfz,e,ow,es,ks,he,hb,hz.1,hz.2.1,hz.2.2,.inr (.inr (.inr ⟨es2,none,rfl,by simp,hc,hl,hK⟩))⟩⟩
end
end Go.Proofs.Ytnjedabjbeipeaa
/-
  From a law's arguments, as the row reads them, to data; and from a law's contract to the law. Plain lemmas.
  Conditions: those typed in each theorem.
-/
namespace Go.Proofs.Ytnjedabjbeipeaa
open Go.RowKit Go.ChangeShapes Go.WideShapes Go.ChangeAt Go.Deep Go.Joins
set_option linter.unusedVariables false
set_option linter.unusedSimpArgs false
inductive OkD:D→Prop
 | int (k:IntKind) (x:Int) (h:(Lit.int k x).wf=true):OkD (.int k x)
 | bool (b:Bool):OkD (.bool b)
 | sl (t:TypeId) (es:List (List D)) (h:∀ e∈es,∀ d∈e,OkD d):OkD (.sl t es)
theorem OkD.i64 {x:Int} (h:OkD (.int .i64 x)):-9223372036854775808≤x∧x≤9223372036854775807:=by
 cases h with
 | int _ _ h =>
   have h2:(decide (IntKind.i64.min≤x)&&decide (x≤IntKind.i64.max))=true:=h
   have a:IntKind.i64.min=-9223372036854775808:=by decide
   have b:IntKind.i64.max=9223372036854775807:=by decide
   rw[a,b] at h2
   simpa using h2
def OpD {α:Type} (P:Program) (en:α→D) (t:TypeId):Prop :=
 ∀ {H:Type} {enc:TypeId×Value→H} {W:World} {B fuel:Nat} {cs:List Value} {x:DataW H×List MemPlace},
   DataW.trod enc P W 0 (fun _=>true) true fuel t cs=some x→(∀ p∈x.2,p.block<B)→∃ (d:α) (v:Value),cs=[v]∧Rd W (·<B) (en d) v∧OkD (en d)
def OpE {α:Type} (P:Program) (en:α→List D) (t:TypeId):Prop :=
 ∀ {H:Type} {enc:TypeId×Value→H} {W:World} {B fuel:Nat} {cs:List Value} {x:DataW H×List MemPlace},
   DataW.trod enc P W 0 (fun _=>true) true fuel t cs=some x→(∀ p∈x.2,p.block<B)→∃ d:α,Rds W (·<B) (en d) cs []∧∀ q∈en d,OkD q
def eInt (x:Int):D:=.int .i64 x
def eBool (x:Bool):D:=.bool x
def eSl {α:Type} (e:TypeId) (en:α→List D) (xs:List α):D:=.sl e (xs.map en)
def e1 {α:Type} (en:α→D) (x:α):List D:=[en x]
def e2 {α β:Type} (a:α→D) (b:β→D) (x:α×β):List D:=[a x.1,b x.2]
def e3 {α β γ:Type} (a:α→D) (b:β→D) (c:γ→D) (x:α×β×γ):List D:=[a x.1,b x.2.1,c x.2.2]
def e4 {α β γ δ:Type} (a:α→D) (b:β→D) (c:γ→D) (d:δ→D) (x:α×β×γ×δ):List D:=[a x.1,b x.2.1,c x.2.2.1,d x.2.2.2]
section
variable {P:Program} {t:TypeId}
theorem ope_1 {α:Type} {en:α→D} (h:OpD P en t):OpE P (e1 en) t:=fun h1 h2=>by
 obtain⟨d,v,rfl,hr,ho⟩:=h h1 h2
 refine⟨d,⟨rfl,rfl,fun i x hx=>?_⟩,by simpa [e1] using ho⟩
 match i with
 | 0=>simp[e1] at hx;subst hx;exact⟨v,rfl,hr⟩
 | i+1=>simp[e1] at hx
theorem spot_none' {w:World} {a:Addr} {u:Value} (h:w.cell? a=some u):a.spot=none:=by
 unfold World.cell? at h
 split at h
 · split at h
   · cases h
   · rename_i hs
     cases hp:a.spot with
     | none=>rfl
     | some q=>rw[hp] at hs;simp at hs
 · cases h
theorem opd_sl {α:Type} {en:α→List D} {e:TypeId} (ht:P.underlying t=some (.slice e)) (hpos:0<P.cellsOf e) (hE:∀ x,(en x).length=P.cellsOf e) (hT:OpE P en e):OpD P (eSl e en) t:=by
 intro H enc W B fuel cs x h hlt
 rcases open_slice ht h with ⟨rfl,rfl⟩|⟨a,len,cap,m,n,D,Pl,rfl,hb,hl,hm,hmm,hx,hi⟩
 · exact⟨[],_,rfl,.nil _ _ _,.sl _ _ (by simp)⟩
 · have hm':m=cap:=hmm
   subst hm'
   have hlen63:len≤9223372036854775807:=by simp only[maxLen] at hm;omega
   have hpl:∀ i,i<m→∀ p∈Pl i,p.block<B:=by
    intro i him p hp
    refine hlt p ?_
    rw[hx]
    simp only[List.mem_append,List.mem_flatMap,List.mem_range]
    exact .inr ⟨i,him,hp⟩
   have helem:∀ i,i<len→∃ y:α×List Value,W.cells? 0 (a.add (i*P.cellsOf e)) (P.cellsOf e)=some y.2∧Rds W (·<B) (en y.1) y.2 []∧∀ q∈en y.1,OkD q:=by
    intro i hil
    obtain⟨cs',hc,ht'⟩:=hi i (by omega)
    obtain⟨d,hd⟩:=hT ht' (fun p hp=>hpl i (by omega) p hp)
    exact⟨(d,cs'),hc,hd⟩
   by_cases h0:len=0
   · subst h0
     exact⟨[],_,rfl,.nil _ _ _,.sl _ _ (by simp)⟩
   have hn':0<len:=by omega
   obtain⟨y0,hy0⟩:=helem 0 hn'
   have hall:∀ i,∃ y:α×List Value,i<len→W.cells? 0 (a.add (i*P.cellsOf e)) (P.cellsOf e)=some y.2∧Rds W (·<B) (en y.1) y.2 []∧∀ q∈en y.1,OkD q:=by
    intro i
    by_cases hil:i<len
    · obtain⟨y,hy⟩:=helem i hil
      exact⟨y,fun _=>hy⟩
    · exact⟨y0,fun h=>absurd h hil⟩
   obtain⟨f,hf⟩:=Classical.skolem.1 hall
   have hblk:a.block<B:=by
    have:MemPlace.cell a.block a.off∈x.2:=by
     rw[hx]
     simp only[List.mem_append]
     left
     rw[MemPlace.row]
     simp only[List.mem_map,List.mem_range]
     exact⟨0,Nat.mul_pos (by omega) hpos,by simp⟩
    exact hlt _ this
   have hspot:a.spot=none:=by
    obtain⟨_,hcl,hat⟩:=World.cells?_some hy0.1
    have h0:=hat 0 hpos
    have hcl':0<y0.2.length:=by rw[hcl];exact hpos
    rw[List.getElem?_eq_getElem hcl'] at h0
    have:=spot_none' h0
    simpa [Addr.add] using this
   obtain⟨b,o,sp⟩:=a
   simp only at hspot
   subst hspot
   have hr:=Rd.sl (w:=W) (G:=(·<B)) e ((List.range len).map fun i=>en (f i).1) b o m (P.cellsOf e) (fun i j=>((f i).2[j]?).getD (.bool false)) (by simpa using hlen63) (by simpa using hl) hblk
    (fun x hx=>by simp only[List.mem_map,List.mem_range] at hx;obtain⟨i,_,rfl⟩:=hx;exact hE _)
    (fun i y j d hy hd=>by
      rw[List.getElem?_map,Option.map_eq_some_iff] at hy
      obtain⟨i',hi',rfl⟩:=hy
      have hil:i<len:=by
       have:=(List.getElem?_eq_some_iff.1 hi').1
       simpa using this
      rw[List.getElem?_range hil] at hi'
      obtain rfl:=Option.some.inj hi'
      obtain⟨h1,h2,h3⟩:=hf i hil
      obtain⟨_,hcl,hat⟩:=World.cells?_some h1
      have hj:j<P.cellsOf e:=by rw[←hE (f i).1];exact (List.getElem?_eq_some_iff.1 hd).1
      have:=hat j hj
      have hj2:j<(f i).2.length:=by rw[hcl];exact hj
      rw[List.getElem?_eq_getElem hj2] at this ⊢
      have ee:((⟨b,o,none⟩:Addr).add (i*P.cellsOf e)).add j=⟨b,o+i*P.cellsOf e+j,none⟩:=by
       rw[Go.Deep.add_add]
       unfold Addr.add
       split
       · rename_i h0
         rw[Nat.add_assoc,h0,Nat.add_zero]
       · rw[Nat.add_assoc]
      rw[ee] at this
      simpa using this)
    (fun i y j d hy hd=>by
      rw[List.getElem?_map,Option.map_eq_some_iff] at hy
      obtain⟨i',hi',rfl⟩:=hy
      have hil:i<len:=by
       have:=(List.getElem?_eq_some_iff.1 hi').1
       simpa using this
      rw[List.getElem?_range hil] at hi'
      obtain rfl:=Option.some.inj hi'
      obtain⟨h1,h2,h3⟩:=hf i hil
      obtain⟨v,hv,hr⟩:=h2.2.2 j d hd
      rw[hv]
      exact hr)
   refine⟨(List.range len).map fun i=>(f i).1,_,rfl,?_⟩
   have el:((List.range len).map fun i=>en (f i).1).length=len:=by simp
   rw[el] at hr
   have em:eSl e en ((List.range len).map fun i=>(f i).1)=.sl e ((List.range len).map fun i=>en (f i).1):=by simp[eSl,Function.comp_def]
   rw[em]
   refine⟨hr,.sl _ _ fun e he q hq=>?_⟩
   simp only[List.mem_map,List.mem_range] at he
   obtain⟨i,hi,rfl⟩:=he
   exact (hf i hi).2.2 q hq
section
variable {α:Type} {H:Type} {enc:TypeId×Value→H} {W:World} {base:Nat} {v:Value} {d:DataW H} {p:List MemPlace}
theorem openR_sl {en:α→D} {e:TypeId} (ht:P.underlying t=some (.slice e)) (hO:OpD P en t) (hv:Value.okWide P W .any base t v) (h:DataW.Trod enc P W 0 (fun _=>true) true t v d p) (hlt:∀ x∈p,x.block<W.heap.size):∃ x:α,Rd W (·<W.heap.size) (en x) v∧OkD (en x):=by
 obtain⟨a0,len,cap,rfl⟩:=okWide_slice ht hv
 obtain⟨fuel,hf⟩:=h
 obtain⟨x,v,e1,h2⟩:=hO hf hlt
 have e1':[Value.slice a0 len cap]=[v]:=e1
 cases e1'
 exact⟨x,h2⟩
theorem openD_sl {en:α→D} {e:TypeId} (ht:P.underlying t=some (.slice e)) (hO:OpD P en t) (hv:Value.okWide P W .any base t v) (h:DataW.Trod enc P W 0 (fun _=>true) true t v d p) (hlt:∀ x∈p,x.block<W.heap.size):∃ x:α,Rd W (·<W.heap.size) (en x) v:=by
 obtain⟨x,h,_⟩:=openR_sl ht hO hv h hlt
 exact⟨x,h⟩
end
theorem law_con {f:FuncId} {xs:List X} (h:ConC P f xs (.d (.bool true))) {w:World} {vs:Array Value} (hl:vs.size=xs.length) (hr:∀ (i:Nat) (x:X) (v:Value),xs[i]? = some x→vs[i]? = some v→XRd w (·<w.heap.size) x v) :
 Calls P f vs w fun e w'=>e=.returned (.bool true)∧Below w.heap.size w w':=by
 refine (h.2 w vs.toList (by simpa using hl) (fun i x v hx hv=>hr i x v hx (by simpa using hv))).mono ?_
 rintro e w' ⟨v,F,rfl,hres,-,-,hb⟩
 refine⟨?_,hb⟩
 cases hres with
 | one hx=>cases hx with
   | d ho =>
     obtain⟨v',hv',hr'⟩:=ho.rd (G:=fun _=>True) (fun _ _=>trivial) 0 _ rfl
     simp at hv'
     subst hv'
     cases hr'
     rfl
end
end Go.Proofs.Ytnjedabjbeipeaa
