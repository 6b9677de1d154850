/-
  Facts on the program's types, for abstract walks.
  Conditions: none.
-/
import Derived.Test.YtakohcpfjkcfdaaV4
import Derived.Lib.Hide
/-
  Facts on the program's types, for abstract walks.
  Conditions: none.
-/
namespace Go.Proofs.Ytakohcpfjkcfdaa
open Go.RowKit Go.ChangeShapes Go.WideShapes
@[simp] theorem vt_un_2:(Try.prog.underlying 2).isSome=true:=by kernel_rfl
@[simp] theorem vt_ag_2:aggT Try.prog 2=false:=by kernel_rfl
@[simp] theorem vt_ce_2:Try.prog.cellsOf 2=1:=by kernel_rfl
@[simp] theorem vt_by_2:Try.prog.bytesOf 2=8:=by kernel_rfl
@[simp] theorem vt_ze_2:zeroV Try.prog 2=some [.d (.int .i64 0)]:=by kernel_rfl
@[simp] theorem vt_ud_2:Try.prog.underlying 2=some (.int .i64):=by kernel_rfl
@[simp] theorem vt_un_3:(Try.prog.underlying 3).isSome=true:=by kernel_rfl
@[simp] theorem vt_ag_3:aggT Try.prog 3=false:=by kernel_rfl
@[simp] theorem vt_ce_3:Try.prog.cellsOf 3=1:=by kernel_rfl
@[simp] theorem vt_by_3:Try.prog.bytesOf 3=8:=by kernel_rfl
@[simp] theorem vt_ze_3:zeroV Try.prog 3=some [.d (.int .i64 0)]:=by kernel_rfl
@[simp] theorem vt_ud_3:Try.prog.underlying 3=some (.int .i64):=by kernel_rfl
@[simp] theorem vt_un_4:(Try.prog.underlying 4).isSome=true:=by kernel_rfl
@[simp] theorem vt_ag_4:aggT Try.prog 4=false:=by kernel_rfl
@[simp] theorem vt_ce_4:Try.prog.cellsOf 4=1:=by kernel_rfl
@[simp] theorem vt_by_4:Try.prog.bytesOf 4=1:=by kernel_rfl
@[simp] theorem vt_ze_4:zeroV Try.prog 4=some [.d (.bool false)]:=by kernel_rfl
@[simp] theorem vt_ud_4:Try.prog.underlying 4=some .bool:=by kernel_rfl
@[simp] theorem vt_un_5:(Try.prog.underlying 5).isSome=true:=by kernel_rfl
@[simp] theorem vt_ag_5:aggT Try.prog 5=false:=by kernel_rfl
@[simp] theorem vt_ce_5:Try.prog.cellsOf 5=1:=by kernel_rfl
@[simp] theorem vt_by_5:Try.prog.bytesOf 5=1:=by kernel_rfl
@[simp] theorem vt_ze_5:zeroV Try.prog 5=some [.d (.int .u8 0)]:=by kernel_rfl
@[simp] theorem vt_ud_5:Try.prog.underlying 5=some (.int .u8):=by kernel_rfl
@[simp] theorem vt_un_6:(Try.prog.underlying 6).isSome=true:=by kernel_rfl
@[simp] theorem vt_ag_6:aggT Try.prog 6=false:=by kernel_rfl
@[simp] theorem vt_ce_6:Try.prog.cellsOf 6=1:=by kernel_rfl
@[simp] theorem vt_by_6:Try.prog.bytesOf 6=1:=by kernel_rfl
@[simp] theorem vt_ze_6:zeroV Try.prog 6=some [.d (.int .u8 0)]:=by kernel_rfl
@[simp] theorem vt_ud_6:Try.prog.underlying 6=some (.int .u8):=by kernel_rfl
@[simp] theorem vt_un_7:(Try.prog.underlying 7).isSome=true:=by kernel_rfl
@[simp] theorem vt_ag_7:aggT Try.prog 7=true:=by kernel_rfl
@[simp] theorem vt_ce_7:Try.prog.cellsOf 7=4:=by kernel_rfl
@[simp] theorem vt_by_7:Try.prog.bytesOf 7=24:=by kernel_rfl
@[simp] theorem vt_fo0_7:fieldOf Try.prog 7 0=some (0,2):=by kernel_rfl
@[simp] theorem vt_fo1_7:fieldOf Try.prog 7 1=some (1,3):=by kernel_rfl
@[simp] theorem vt_fo2_7:fieldOf Try.prog 7 2=some (2,4):=by kernel_rfl
@[simp] theorem vt_fo3_7:fieldOf Try.prog 7 3=some (3,6):=by kernel_rfl
@[simp] theorem vt_ze_7:zeroV Try.prog 7=some [.d (.int .i64 0),.d (.int .i64 0),.d (.bool false),.d (.int .u8 0)]:=by kernel_rfl
@[simp] theorem vt_un_8:(Try.prog.underlying 8).isSome=true:=by kernel_rfl
@[simp] theorem vt_ag_8:aggT Try.prog 8=true:=by kernel_rfl
@[simp] theorem vt_ce_8:Try.prog.cellsOf 8=4:=by kernel_rfl
@[simp] theorem vt_by_8:Try.prog.bytesOf 8=24:=by kernel_rfl
@[simp] theorem vt_fo0_8:fieldOf Try.prog 8 0=some (0,2):=by kernel_rfl
@[simp] theorem vt_fo1_8:fieldOf Try.prog 8 1=some (1,3):=by kernel_rfl
@[simp] theorem vt_fo2_8:fieldOf Try.prog 8 2=some (2,4):=by kernel_rfl
@[simp] theorem vt_fo3_8:fieldOf Try.prog 8 3=some (3,6):=by kernel_rfl
@[simp] theorem vt_ze_8:zeroV Try.prog 8=some [.d (.int .i64 0),.d (.int .i64 0),.d (.bool false),.d (.int .u8 0)]:=by kernel_rfl
@[simp] theorem vt_un_12:(Try.prog.underlying 12).isSome=true:=by kernel_rfl
@[simp] theorem vt_ag_12:aggT Try.prog 12=false:=by kernel_rfl
@[simp] theorem vt_ce_12:Try.prog.cellsOf 12=1:=by kernel_rfl
@[simp] theorem vt_by_12:Try.prog.bytesOf 12=8:=by kernel_rfl
@[simp] theorem vt_ze_12:zeroV Try.prog 12=some [.d (.int .u64 0)]:=by kernel_rfl
@[simp] theorem vt_ud_12:Try.prog.underlying 12=some (.int .u64):=by kernel_rfl
@[simp] theorem vt_un_21:(Try.prog.underlying 21).isSome=true:=by kernel_rfl
@[simp] theorem vt_ag_21:aggT Try.prog 21=false:=by kernel_rfl
@[simp] theorem vt_ce_21:Try.prog.cellsOf 21=1:=by kernel_rfl
@[simp] theorem vt_by_21:Try.prog.bytesOf 21=4:=by kernel_rfl
@[simp] theorem vt_ze_21:zeroV Try.prog 21=some [.d (.int .i32 0)]:=by kernel_rfl
@[simp] theorem vt_ud_21:Try.prog.underlying 21=some (.int .i32):=by kernel_rfl
@[simp] theorem vt_un_22:(Try.prog.underlying 22).isSome=true:=by kernel_rfl
@[simp] theorem vt_ag_22:aggT Try.prog 22=false:=by kernel_rfl
@[simp] theorem vt_ce_22:Try.prog.cellsOf 22=1:=by kernel_rfl
@[simp] theorem vt_by_22:Try.prog.bytesOf 22=24:=by kernel_rfl
@[simp] theorem vt_el_22:elemOf Try.prog 22=some 5:=by kernel_rfl
@[simp] theorem vt_ze_22:zeroV Try.prog 22=some [.nil 5]:=by kernel_rfl
@[simp] theorem vt_un_24:(Try.prog.underlying 24).isSome=true:=by kernel_rfl
@[simp] theorem vt_ag_24:aggT Try.prog 24=false:=by kernel_rfl
@[simp] theorem vt_ce_24:Try.prog.cellsOf 24=1:=by kernel_rfl
@[simp] theorem vt_by_24:Try.prog.bytesOf 24=24:=by kernel_rfl
@[simp] theorem vt_el_24:elemOf Try.prog 24=some 68:=by kernel_rfl
@[simp] theorem vt_ze_24:zeroV Try.prog 24=some [.nil 68]:=by kernel_rfl
@[simp] theorem vt_un_25:(Try.prog.underlying 25).isSome=true:=by kernel_rfl
@[simp] theorem vt_ag_25:aggT Try.prog 25=false:=by kernel_rfl
@[simp] theorem vt_ce_25:Try.prog.cellsOf 25=1:=by kernel_rfl
@[simp] theorem vt_by_25:Try.prog.bytesOf 25=24:=by kernel_rfl
@[simp] theorem vt_el_25:elemOf Try.prog 25=some 56:=by kernel_rfl
@[simp] theorem vt_ze_25:zeroV Try.prog 25=some [.nil 56]:=by kernel_rfl
@[simp] theorem vt_un_26:(Try.prog.underlying 26).isSome=true:=by kernel_rfl
@[simp] theorem vt_ag_26:aggT Try.prog 26=false:=by kernel_rfl
@[simp] theorem vt_ce_26:Try.prog.cellsOf 26=1:=by kernel_rfl
@[simp] theorem vt_by_26:Try.prog.bytesOf 26=24:=by kernel_rfl
@[simp] theorem vt_el_26:elemOf Try.prog 26=some 3:=by kernel_rfl
@[simp] theorem vt_ze_26:zeroV Try.prog 26=some [.nil 3]:=by kernel_rfl
@[simp] theorem vt_un_27:(Try.prog.underlying 27).isSome=true:=by kernel_rfl
@[simp] theorem vt_ag_27:aggT Try.prog 27=true:=by kernel_rfl
@[simp] theorem vt_ce_27:Try.prog.cellsOf 27=4:=by kernel_rfl
@[simp] theorem vt_by_27:Try.prog.bytesOf 27=80:=by kernel_rfl
@[simp] theorem vt_fo0_27:fieldOf Try.prog 27 0=some (0,3):=by kernel_rfl
@[simp] theorem vt_fo1_27:fieldOf Try.prog 27 1=some (1,24):=by kernel_rfl
@[simp] theorem vt_fo2_27:fieldOf Try.prog 27 2=some (2,25):=by kernel_rfl
@[simp] theorem vt_fo3_27:fieldOf Try.prog 27 3=some (3,26):=by kernel_rfl
@[simp] theorem vt_ze_27:zeroV Try.prog 27=some [.d (.int .i64 0),.nil 68,.nil 56,.nil 3]:=by kernel_rfl
@[simp] theorem vt_un_28:(Try.prog.underlying 28).isSome=true:=by kernel_rfl
@[simp] theorem vt_ag_28:aggT Try.prog 28=true:=by kernel_rfl
@[simp] theorem vt_ce_28:Try.prog.cellsOf 28=4:=by kernel_rfl
@[simp] theorem vt_by_28:Try.prog.bytesOf 28=80:=by kernel_rfl
@[simp] theorem vt_fo0_28:fieldOf Try.prog 28 0=some (0,3):=by kernel_rfl
@[simp] theorem vt_fo1_28:fieldOf Try.prog 28 1=some (1,24):=by kernel_rfl
@[simp] theorem vt_fo2_28:fieldOf Try.prog 28 2=some (2,25):=by kernel_rfl
@[simp] theorem vt_fo3_28:fieldOf Try.prog 28 3=some (3,26):=by kernel_rfl
@[simp] theorem vt_ze_28:zeroV Try.prog 28=some [.d (.int .i64 0),.nil 68,.nil 56,.nil 3]:=by kernel_rfl
@[simp] theorem vt_un_29:(Try.prog.underlying 29).isSome=true:=by kernel_rfl
@[simp] theorem vt_ag_29:aggT Try.prog 29=false:=by kernel_rfl
@[simp] theorem vt_ce_29:Try.prog.cellsOf 29=1:=by kernel_rfl
@[simp] theorem vt_by_29:Try.prog.bytesOf 29=24:=by kernel_rfl
@[simp] theorem vt_el_29:elemOf Try.prog 29=some 26:=by kernel_rfl
@[simp] theorem vt_ze_29:zeroV Try.prog 29=some [.nil 26]:=by kernel_rfl
@[simp] theorem vt_un_55:(Try.prog.underlying 55).isSome=true:=by kernel_rfl
@[simp] theorem vt_ag_55:aggT Try.prog 55=true:=by kernel_rfl
@[simp] theorem vt_ce_55:Try.prog.cellsOf 55=2:=by kernel_rfl
@[simp] theorem vt_by_55:Try.prog.bytesOf 55=16:=by kernel_rfl
@[simp] theorem vt_fo0_55:fieldOf Try.prog 55 0=some (0,3):=by kernel_rfl
@[simp] theorem vt_fo1_55:fieldOf Try.prog 55 1=some (1,3):=by kernel_rfl
@[simp] theorem vt_ze_55:zeroV Try.prog 55=some [.d (.int .i64 0),.d (.int .i64 0)]:=by kernel_rfl
@[simp] theorem vt_pa_55:pairT Try.prog 55=true:=by kernel_rfl
@[simp] theorem vt_un_56:(Try.prog.underlying 56).isSome=true:=by kernel_rfl
@[simp] theorem vt_ag_56:aggT Try.prog 56=true:=by kernel_rfl
@[simp] theorem vt_ce_56:Try.prog.cellsOf 56=2:=by kernel_rfl
@[simp] theorem vt_by_56:Try.prog.bytesOf 56=16:=by kernel_rfl
@[simp] theorem vt_fo0_56:fieldOf Try.prog 56 0=some (0,3):=by kernel_rfl
@[simp] theorem vt_fo1_56:fieldOf Try.prog 56 1=some (1,3):=by kernel_rfl
@[simp] theorem vt_ze_56:zeroV Try.prog 56=some [.d (.int .i64 0),.d (.int .i64 0)]:=by kernel_rfl
@[simp] theorem vt_pa_56:pairT Try.prog 56=true:=by kernel_rfl
@[simp] theorem vt_un_58:(Try.prog.underlying 58).isSome=true:=by kernel_rfl
@[simp] theorem vt_ag_58:aggT Try.prog 58=true:=by kernel_rfl
@[simp] theorem vt_ce_58:Try.prog.cellsOf 58=3:=by kernel_rfl
@[simp] theorem vt_by_58:Try.prog.bytesOf 58=40:=by kernel_rfl
@[simp] theorem vt_fo0_58:fieldOf Try.prog 58 0=some (0,22):=by kernel_rfl
@[simp] theorem vt_fo1_58:fieldOf Try.prog 58 1=some (1,3):=by kernel_rfl
@[simp] theorem vt_fo2_58:fieldOf Try.prog 58 2=some (2,3):=by kernel_rfl
@[simp] theorem vt_ze_58:zeroV Try.prog 58=some [.nil 5,.d (.int .i64 0),.d (.int .i64 0)]:=by kernel_rfl
@[simp] theorem vt_un_59:(Try.prog.underlying 59).isSome=true:=by kernel_rfl
@[simp] theorem vt_ag_59:aggT Try.prog 59=true:=by kernel_rfl
@[simp] theorem vt_ce_59:Try.prog.cellsOf 59=3:=by kernel_rfl
@[simp] theorem vt_by_59:Try.prog.bytesOf 59=40:=by kernel_rfl
@[simp] theorem vt_fo0_59:fieldOf Try.prog 59 0=some (0,22):=by kernel_rfl
@[simp] theorem vt_fo1_59:fieldOf Try.prog 59 1=some (1,3):=by kernel_rfl
@[simp] theorem vt_fo2_59:fieldOf Try.prog 59 2=some (2,3):=by kernel_rfl
@[simp] theorem vt_ze_59:zeroV Try.prog 59=some [.nil 5,.d (.int .i64 0),.d (.int .i64 0)]:=by kernel_rfl
@[simp] theorem vt_un_67:(Try.prog.underlying 67).isSome=true:=by kernel_rfl
@[simp] theorem vt_ag_67:aggT Try.prog 67=true:=by kernel_rfl
@[simp] theorem vt_ce_67:Try.prog.cellsOf 67=3:=by kernel_rfl
@[simp] theorem vt_by_67:Try.prog.bytesOf 67=40:=by kernel_rfl
@[simp] theorem vt_fo0_67:fieldOf Try.prog 67 0=some (0,3):=by kernel_rfl
@[simp] theorem vt_fo1_67:fieldOf Try.prog 67 1=some (1,3):=by kernel_rfl
@[simp] theorem vt_fo2_67:fieldOf Try.prog 67 2=some (2,26):=by kernel_rfl
@[simp] theorem vt_ze_67:zeroV Try.prog 67=some [.d (.int .i64 0),.d (.int .i64 0),.nil 3]:=by kernel_rfl
@[simp] theorem vt_un_68:(Try.prog.underlying 68).isSome=true:=by kernel_rfl
@[simp] theorem vt_ag_68:aggT Try.prog 68=true:=by kernel_rfl
@[simp] theorem vt_ce_68:Try.prog.cellsOf 68=3:=by kernel_rfl
@[simp] theorem vt_by_68:Try.prog.bytesOf 68=40:=by kernel_rfl
@[simp] theorem vt_fo0_68:fieldOf Try.prog 68 0=some (0,3):=by kernel_rfl
@[simp] theorem vt_fo1_68:fieldOf Try.prog 68 1=some (1,3):=by kernel_rfl
@[simp] theorem vt_fo2_68:fieldOf Try.prog 68 2=some (2,26):=by kernel_rfl
@[simp] theorem vt_ze_68:zeroV Try.prog 68=some [.d (.int .i64 0),.d (.int .i64 0),.nil 3]:=by kernel_rfl
@[simp] theorem vt_un_72:(Try.prog.underlying 72).isSome=true:=by kernel_rfl
@[simp] theorem vt_ag_72:aggT Try.prog 72=false:=by kernel_rfl
@[simp] theorem vt_ce_72:Try.prog.cellsOf 72=1:=by kernel_rfl
@[simp] theorem vt_by_72:Try.prog.bytesOf 72=24:=by kernel_rfl
@[simp] theorem vt_el_72:elemOf Try.prog 72=some 4:=by kernel_rfl
@[simp] theorem vt_ze_72:zeroV Try.prog 72=some [.nil 4]:=by kernel_rfl
@[simp] theorem vt_un_75:(Try.prog.underlying 75).isSome=true:=by kernel_rfl
@[simp] theorem vt_ag_75:aggT Try.prog 75=false:=by kernel_rfl
@[simp] theorem vt_ce_75:Try.prog.cellsOf 75=1:=by kernel_rfl
@[simp] theorem vt_by_75:Try.prog.bytesOf 75=8:=by kernel_rfl
@[simp] theorem vt_ze_75:zeroV Try.prog 75=some [.any]:=by kernel_rfl
@[simp] theorem vt_zl_75:zeroVl Try.prog 75=some (0,none):=by kernel_rfl
@[simp] theorem vt_un_76:(Try.prog.underlying 76).isSome=true:=by kernel_rfl
@[simp] theorem vt_ag_76:aggT Try.prog 76=true:=by kernel_rfl
@[simp] theorem vt_ce_76:Try.prog.cellsOf 76=9:=by kernel_rfl
@[simp] theorem vt_by_76:Try.prog.bytesOf 76=168:=by kernel_rfl
@[simp] theorem vt_fo0_76:fieldOf Try.prog 76 0=some (0,28):=by kernel_rfl
@[simp] theorem vt_fo1_76:fieldOf Try.prog 76 1=some (4,3):=by kernel_rfl
@[simp] theorem vt_fo2_76:fieldOf Try.prog 76 2=some (5,72):=by kernel_rfl
@[simp] theorem vt_fo3_76:fieldOf Try.prog 76 3=some (6,72):=by kernel_rfl
@[simp] theorem vt_fo4_76:fieldOf Try.prog 76 4=some (7,26):=by kernel_rfl
@[simp] theorem vt_fo5_76:fieldOf Try.prog 76 5=some (8,75):=by kernel_rfl
@[simp] theorem vt_ze_76:zeroV Try.prog 76=some [.d (.int .i64 0),.nil 68,.nil 56,.nil 3,.d (.int .i64 0),.nil 4,.nil 4,.nil 3,.any]:=by kernel_rfl
@[simp] theorem vt_un_77:(Try.prog.underlying 77).isSome=true:=by kernel_rfl
@[simp] theorem vt_ag_77:aggT Try.prog 77=true:=by kernel_rfl
@[simp] theorem vt_ce_77:Try.prog.cellsOf 77=9:=by kernel_rfl
@[simp] theorem vt_by_77:Try.prog.bytesOf 77=168:=by kernel_rfl
@[simp] theorem vt_fo0_77:fieldOf Try.prog 77 0=some (0,28):=by kernel_rfl
@[simp] theorem vt_fo1_77:fieldOf Try.prog 77 1=some (4,3):=by kernel_rfl
@[simp] theorem vt_fo2_77:fieldOf Try.prog 77 2=some (5,72):=by kernel_rfl
@[simp] theorem vt_fo3_77:fieldOf Try.prog 77 3=some (6,72):=by kernel_rfl
@[simp] theorem vt_fo4_77:fieldOf Try.prog 77 4=some (7,26):=by kernel_rfl
@[simp] theorem vt_fo5_77:fieldOf Try.prog 77 5=some (8,75):=by kernel_rfl
@[simp] theorem vt_ze_77:zeroV Try.prog 77=some [.d (.int .i64 0),.nil 68,.nil 56,.nil 3,.d (.int .i64 0),.nil 4,.nil 4,.nil 3,.any]:=by kernel_rfl
@[simp] theorem vt_un_79:(Try.prog.underlying 79).isSome=true:=by kernel_rfl
@[simp] theorem vt_ag_79:aggT Try.prog 79=false:=by kernel_rfl
@[simp] theorem vt_ce_79:Try.prog.cellsOf 79=1:=by kernel_rfl
@[simp] theorem vt_by_79:Try.prog.bytesOf 79=8:=by kernel_rfl
@[simp] theorem vt_ze_79:zeroV Try.prog 79=some [.any]:=by kernel_rfl
@[simp] theorem vt_zl_79:zeroVl Try.prog 79=some (0,some false):=by kernel_rfl
@[simp] theorem vt_un_83:(Try.prog.underlying 83).isSome=true:=by kernel_rfl
@[simp] theorem vt_ag_83:aggT Try.prog 83=true:=by kernel_rfl
@[simp] theorem vt_ce_83:Try.prog.cellsOf 83=2:=by kernel_rfl
@[simp] theorem vt_by_83:Try.prog.bytesOf 83=16:=by kernel_rfl
@[simp] theorem vt_fo0_83:fieldOf Try.prog 83 0=some (0,3):=by kernel_rfl
@[simp] theorem vt_fo1_83:fieldOf Try.prog 83 1=some (1,4):=by kernel_rfl
@[simp] theorem vt_ze_83:zeroV Try.prog 83=some [.d (.int .i64 0),.d (.bool false)]:=by kernel_rfl
@[simp] theorem vt_pb_83:pairB Try.prog 83=true:=by kernel_rfl
@[simp] theorem vt_un_84:(Try.prog.underlying 84).isSome=true:=by kernel_rfl
@[simp] theorem vt_ag_84:aggT Try.prog 84=true:=by kernel_rfl
@[simp] theorem vt_ce_84:Try.prog.cellsOf 84=2:=by kernel_rfl
@[simp] theorem vt_by_84:Try.prog.bytesOf 84=16:=by kernel_rfl
@[simp] theorem vt_fo0_84:fieldOf Try.prog 84 0=some (0,3):=by kernel_rfl
@[simp] theorem vt_fo1_84:fieldOf Try.prog 84 1=some (1,4):=by kernel_rfl
@[simp] theorem vt_ze_84:zeroV Try.prog 84=some [.d (.int .i64 0),.d (.bool false)]:=by kernel_rfl
@[simp] theorem vt_pb_84:pairB Try.prog 84=true:=by kernel_rfl
@[simp] theorem vt_un_88:(Try.prog.underlying 88).isSome=true:=by kernel_rfl
@[simp] theorem vt_ag_88:aggT Try.prog 88=false:=by kernel_rfl
@[simp] theorem vt_ce_88:Try.prog.cellsOf 88=1:=by kernel_rfl
@[simp] theorem vt_by_88:Try.prog.bytesOf 88=24:=by kernel_rfl
@[simp] theorem vt_el_88:elemOf Try.prog 88=some 29:=by kernel_rfl
@[simp] theorem vt_ze_88:zeroV Try.prog 88=some [.nil 29]:=by kernel_rfl
@[simp] theorem vt_un_100:(Try.prog.underlying 100).isSome=true:=by kernel_rfl
@[simp] theorem vt_ag_100:aggT Try.prog 100=false:=by kernel_rfl
@[simp] theorem vt_ce_100:Try.prog.cellsOf 100=1:=by kernel_rfl
@[simp] theorem vt_by_100:Try.prog.bytesOf 100=24:=by kernel_rfl
@[simp] theorem vt_el_100:elemOf Try.prog 100=some 84:=by kernel_rfl
@[simp] theorem vt_ze_100:zeroV Try.prog 100=some [.nil 84]:=by kernel_rfl
@[simp] theorem vt_un_102:(Try.prog.underlying 102).isSome=true:=by kernel_rfl
@[simp] theorem vt_ag_102:aggT Try.prog 102=true:=by kernel_rfl
@[simp] theorem vt_ce_102:Try.prog.cellsOf 102=2:=by kernel_rfl
@[simp] theorem vt_by_102:Try.prog.bytesOf 102=16:=by kernel_rfl
@[simp] theorem vt_ze_102:zeroV Try.prog 102=some [.d (.int .i64 0),.d (.int .i64 0)]:=by kernel_rfl
@[simp] theorem vt_un_107:(Try.prog.underlying 107).isSome=true:=by kernel_rfl
@[simp] theorem vt_ag_107:aggT Try.prog 107=false:=by kernel_rfl
@[simp] theorem vt_ce_107:Try.prog.cellsOf 107=1:=by kernel_rfl
@[simp] theorem vt_by_107:Try.prog.bytesOf 107=8:=by kernel_rfl
@[simp] theorem vt_ze_107:zeroV Try.prog 107=some [.d (.int .u64 0)]:=by kernel_rfl
@[simp] theorem vt_ud_107:Try.prog.underlying 107=some (.int .u64):=by kernel_rfl
@[simp] theorem vt_un_115:(Try.prog.underlying 115).isSome=true:=by kernel_rfl
@[simp] theorem vt_un_119:(Try.prog.underlying 119).isSome=true:=by kernel_rfl
@[simp] theorem vt_ag_119:aggT Try.prog 119=false:=by kernel_rfl
@[simp] theorem vt_ce_119:Try.prog.cellsOf 119=1:=by kernel_rfl
@[simp] theorem vt_by_119:Try.prog.bytesOf 119=4:=by kernel_rfl
@[simp] theorem vt_ze_119:zeroV Try.prog 119=some [.d (.int .u32 0)]:=by kernel_rfl
@[simp] theorem vt_ud_119:Try.prog.underlying 119=some (.int .u32):=by kernel_rfl
@[simp] theorem vt_un_120:(Try.prog.underlying 120).isSome=true:=by kernel_rfl
@[simp] theorem vt_ag_120:aggT Try.prog 120=false:=by kernel_rfl
@[simp] theorem vt_ce_120:Try.prog.cellsOf 120=1:=by kernel_rfl
@[simp] theorem vt_by_120:Try.prog.bytesOf 120=1:=by kernel_rfl
@[simp] theorem vt_ze_120:zeroV Try.prog 120=some [.d (.int .u8 0)]:=by kernel_rfl
@[simp] theorem vt_ud_120:Try.prog.underlying 120=some (.int .u8):=by kernel_rfl
@[simp] theorem vt_un_121:(Try.prog.underlying 121).isSome=true:=by kernel_rfl
@[simp] theorem vt_ag_121:aggT Try.prog 121=false:=by kernel_rfl
@[simp] theorem vt_ce_121:Try.prog.cellsOf 121=1:=by kernel_rfl
@[simp] theorem vt_by_121:Try.prog.bytesOf 121=1:=by kernel_rfl
@[simp] theorem vt_ze_121:zeroV Try.prog 121=some [.d (.int .u8 0)]:=by kernel_rfl
@[simp] theorem vt_ud_121:Try.prog.underlying 121=some (.int .u8):=by kernel_rfl
@[simp] theorem vt_un_124:(Try.prog.underlying 124).isSome=true:=by kernel_rfl
@[simp] theorem vt_ag_124:aggT Try.prog 124=false:=by kernel_rfl
@[simp] theorem vt_ce_124:Try.prog.cellsOf 124=1:=by kernel_rfl
@[simp] theorem vt_by_124:Try.prog.bytesOf 124=4:=by kernel_rfl
@[simp] theorem vt_ze_124:zeroV Try.prog 124=some [.d (.int .i32 0)]:=by kernel_rfl
@[simp] theorem vt_ud_124:Try.prog.underlying 124=some (.int .i32):=by kernel_rfl
@[simp] theorem vt_un_125:(Try.prog.underlying 125).isSome=true:=by kernel_rfl
@[simp] theorem vt_ag_125:aggT Try.prog 125=false:=by kernel_rfl
@[simp] theorem vt_ce_125:Try.prog.cellsOf 125=1:=by kernel_rfl
@[simp] theorem vt_by_125:Try.prog.bytesOf 125=4:=by kernel_rfl
@[simp] theorem vt_ze_125:zeroV Try.prog 125=some [.d (.int .i32 0)]:=by kernel_rfl
@[simp] theorem vt_ud_125:Try.prog.underlying 125=some (.int .i32):=by kernel_rfl
end Go.Proofs.Ytakohcpfjkcfdaa
/-
  Words for abstract walks; first contracts.
  Conditions: those typed in each theorem.
-/
namespace Go.Proofs.Ytakohcpfjkcfdaa
open Go.RowKit Go.ChangeShapes Go.WideShapes
set_option linter.unusedVariables false
set_option linter.unusedSimpArgs false
section
variable {P:Program} {m:Mode} {Q:Exit→St→Prop} {σ:St} {dr:Bool}
theorem AWp_skip:AWp P m .skip Q σ=Q .normal σ:=rfl
theorem AWp_region_t {id n:Nat} {s b:Bool} {ops:Array Oper}:AWp P ⟨n,s,b,false⟩ (.region id ops true) Q σ=(drawOk ops=true∧AOps P ⟨n,s,false,false⟩ ops (Q .normal) ops.toList σ):=rfl
theorem AWp_region_d {id n:Nat} {s b:Bool} {ops:Array Oper}:AWp P ⟨n,s,b,true⟩ (.region id ops true) Q σ=drawD P ⟨n,s,b,true⟩ ops Q σ:=rfl
theorem drawD_of {n:Nat} {s b:Bool} {ops:Array Oper} (q:Nat) (h:drawAt ops q=true) (h2:AOps P ⟨n,s,false,true⟩ ops (AOps P ⟨n,s,b,true⟩ ops (Q .normal) (ops.toList.drop q)) (ops.toList.take q) σ):drawD P ⟨n,s,b,true⟩ ops Q σ:=.inl (.inl ⟨q,h,h2⟩)
theorem AWp_region_f {id:Nat} {ops:Array Oper}:AWp P m (.region id ops false) Q σ=AOps P m ops (Q .normal) ops.toList σ:=rfl
theorem still_mk {n:Nat} {s b q:Bool}:(⟨n,s,b,q⟩:Mode).still=⟨n,s,false,q⟩:=rfl
theorem AWp_seq {a b:Code}:AWp P m (.seq a b) Q σ=AWp P m a (thenA (AWp P m b Q) Q) σ:=rfl
def condB (t:Bool) (A B:Prop):Prop:=(t=true→A)∧(t=false→B)
theorem condB_true {A B:Prop}:condB true A B=A:=by simp[condB]
theorem condB_false {A B:Prop}:condB false A B=B:=by simp[condB]
def condG (t:Bool) (A B:Prop):Prop:=condB t A B
@[congr] theorem condG_congr {t t':Bool} {A B:Prop} (h:t=t'):condG t A B=condG t' A B:=by rw[h]
theorem condG_true {A B:Prop}:condG true A B=A:=condB_true
theorem condG_false {A B:Prop}:condG false A B=B:=condB_false
def condV (P:Program) (m:Mode) (x y:Code) (Q:Exit→St→Prop) (σ:St) (v:V):Prop :=
 match v with
 | .d (.bool t)=>condB t (AWp P m x Q σ) (AWp P m y Q σ)
 | _=>False
theorem condV_bool {x y:Code} {t:Bool}:condV P m x y Q σ (.d (.bool t))=condB t (AWp P m x Q σ) (AWp P m y Q σ):=rfl
theorem AWp_cond {c:Operand} {x y:Code}:AWp P m (.cond c x y) Q σ=condV P m x y Q σ (σ.eval c):=by
 show (match σ.eval c with
  | .d (.bool t)=>(t=true→AWp P m x Q σ)∧(t=false→AWp P m y Q σ)
  | _=>False)=_
 rfl
theorem AWp_block {id:Nat} {c:Code}:AWp P m (.block id c) Q σ=AWp P m c (inBlockA id Q) σ:=rfl
theorem AWp_exit {id:Nat}:AWp P m (.exit id) Q σ=Q (.exit id) σ:=rfl
theorem AWp_ret:AWp P m .ret Q σ=Q .ret σ:=rfl
section
variable {K:St→Prop} {d:Option Tmp} {ty:TypeId} {pos:String} {af:Array Edge} {g:Option (Nat×Bool)} {x y z:Operand} {t s:TypeId} {f n:Nat}
theorem aop_pure {o:Oper} (h:AOp P m o K σ=∃ x news,(apure P m.st σ o=some x∧news=[])∧K (St.put ⟨σ.tmps,σ.slots++news⟩ o.dst x)):AOp P m o K σ=∃ x,apure P m.st σ o=some x∧K (σ.put o.dst x):=by
 rw[h]
 apply propext
 constructor
 · rintro⟨x,news,⟨h1,rfl⟩,h2⟩
   rw[List.append_nil] at h2
   exact⟨x,h1,h2⟩
 · rintro⟨x,h1,h2⟩
   exact⟨x,[],⟨h1,rfl⟩,by rw[List.append_nil];exact h2⟩
theorem ex_some {v:V} {K:V→Prop}:(∃ x,some v=some x∧K x)=K v:=by
 apply propext
 constructor
 · rintro⟨x,h,hk⟩;cases h;exact hk
 · exact fun h=>⟨v,rfl,h⟩
variable {ops:Array Oper} {rest:List Oper}
def nextO (P:Program) (m:Mode) (ops:Array Oper) (K:St→Prop) (rest:List Oper) (σ:St) (d:Option Tmp) (v:Option V):Prop:=∃ x,v=some x∧AOps P m ops K rest (σ.put d x)
theorem nextO_some {v:V}:nextO P m ops K rest σ d (some v)=AOps P m ops K rest (σ.put d v):=ex_some
def beginT (P:Program) (m:Mode) (ops:Array Oper) (K:St→Prop) (T:List (Oper×List Nat)) (N:List (Nat×List Nat)) (σ:St):Prop:=AOpsT P m ops N σ.slots K T σ
theorem beginT_mk {T:List (Oper×List Nat)} {N:List (Nat×List Nat)} {ts:List V} {sl:List Slot}:beginT P m ops K T N ⟨ts,sl⟩=AOpsT P m ops N sl K T ⟨ts,sl⟩:=rfl
def thenT (P:Program) (m:Mode) (ops:Array Oper) (N:List (Nat×List Nat)) (sl0:List Slot) (K:St→Prop) (ns:List Nat) (T:List (Oper×List Nat)) (σ:St):Prop:=stableN sl0 σ.slots ns N∧AOpsT P m ops N sl0 K T σ
theorem thenT_mk {T:List (Oper×List Nat)} {N:List (Nat×List Nat)} {sl0:List Slot} {ns:List Nat} {ts:List V} {sl:List Slot}:thenT P m ops N sl0 K ns T ⟨ts,sl⟩=(stableN sl0 sl ns N∧AOpsT P m ops N sl0 K T ⟨ts,sl⟩):=rfl
theorem AOpsE_nil {KE:List (Nat×List Nat)→St→Prop} {ts N:List (Nat×List Nat)}:AOpsE P m ops ts KE [] N σ=KE N σ:=rfl
theorem AOpsE_cons {KE:List (Nat×List Nat)→St→Prop} {ts N:List (Nat×List Nat)} {i:Nat} {o:Oper} {E:List (Nat×Oper)}:AOpsE P m ops ts KE ((i,o)::E) N σ=AOps P m ops (AOpsE P m ops ts KE E (if loose ts i=true then (i,namesOf o σ)::N else N)) [o] σ:=rfl
theorem AOpsT_nil {N:List (Nat×List Nat)} {sl0:List Slot}:AOpsT P m ops N sl0 K [] σ=K σ:=rfl
def callCG (P:Program) (m:Mode) (ops:Array Oper) (N:List (Nat×List Nat)) (sl0:List Slot) (K:St→Prop) (ns:List Nat) (T:List (Oper×List Nat)) (σ:St) (d:Option Tmp) (f:FuncId) (xs near:List V):Prop :=
 m.st=false∧∃ (ks π:List Nat) (args:List V) (slc:List Slot) (q:V) (slc':List Slot),ConT P f args slc q slc'∧lives slc∧ks.Nodup∧arrsOk σ.slots ks∧π.Nodup∧leSlots true (kill ks σ.slots) π π slc∧leTmps true (kill ks σ.slots) π (xs.map (viewV σ.slots ks)) args ∧
  (∀ k∈ks++π,nearTo σ.slots near k)∧backT (kill ks σ.slots) π q slc' fun z r=>stableN sl0 r ns N∧AOpsT P m ops N sl0 K T (St.put ⟨σ.tmps,r⟩ d z)
def condC (t:Bool) (A B:Prop):Prop:=if t=true then A else B
theorem condC_true {A B:Prop}:condC true A B=A:=rfl
theorem condC_false {A B:Prop}:condC false A B=B:=rfl
def callVC (P:Program) (m:Mode) (ops:Array Oper) (N:List (Nat×List Nat)) (sl0:List Slot) (K:St→Prop) (ns:List Nat) (T:List (Oper×List Nat)) (σ:St) (d:Option Tmp) (v:V) (xs:List V):Prop :=
 match v with
 | .fn f caps=>callCG P m ops N sl0 K ns T σ d f (xs++caps) (.fn f caps::xs)
 | _=>False
theorem callVC_fn {N:List (Nat×List Nat)} {sl0:List Slot} {ns:List Nat} {T:List (Oper×List Nat)} {f:FuncId} {caps xs:List V}:callVC P m ops N sl0 K ns T σ d (.fn f caps) xs=callCG P m ops N sl0 K ns T σ d f (xs++caps) (.fn f caps::xs):=rfl
def callOf (P:Program) (m:Mode) (ops:Array Oper) (N:List (Nat×List Nat)) (sl0:List Slot) (K:St→Prop) (ns:List Nat) (T:List (Oper×List Nat)) (σ:St) (d:Option Tmp) (op:Op):Prop :=
 match op with
 | .call c=>match c.callee with
   | .value (.func f)=>callCG P m ops N sl0 K ns T σ d f (c.args.toList.map σ.eval) (.fn f []::c.args.toList.map σ.eval)
   | .value v=>callVC P m ops N sl0 K ns T σ d (σ.eval v) (c.args.toList.map σ.eval)
   | _=>False
 | _=>False
theorem callOf_v {N:List (Nat×List Nat)} {sl0:List Slot} {ns:List Nat} {T:List (Oper×List Nat)} {o:Oper} {c:Call} {v:Operand} (ho:o.op=.call c) (hc:c.callee=.value v) :
 (∃ z r,StepC P m o σ z r∧stableN sl0 r ns N∧AOpsT P m ops N sl0 K T (St.put ⟨σ.tmps,r⟩ d z))=callVC P m ops N sl0 K ns T σ d (σ.eval v) (c.args.toList.map σ.eval):=by
 apply propext
 constructor
 · rintro⟨z,r,⟨h0,v',f,caps,c',ho',hc',hf,ks,π,aa,slc,q,slc',h1,h2,h3,h4,h5,h6,h7,h8,r1,ys,b1,b2,rfl,rfl⟩,hs,hk⟩
   rw[ho] at ho'
   cases ho'
   rw[hc] at hc'
   cases hc'
   rw[hf,callVC_fn]
   exact⟨h0,ks,π,aa,slc,q,slc',h1,h2,h3,h4,h5,h6,h7,h8,_,ys,b1,b2,hs,hk⟩
 · intro h
   cases hv:σ.eval v with
   | fn f caps =>
     rw[hv,callVC_fn] at h
     obtain⟨h0,ks,π,aa,slc,q,slc',h1,h2,h3,h4,h5,h6,h7,h8,r1,ys,b1,b2,hs,hk⟩:=h
     exact⟨_,_,⟨h0,v,f,caps,c,ho,hc,hv,ks,π,aa,slc,q,slc',h1,h2,h3,h4,h5,h6,h7,h8,r1,ys,b1,b2,rfl,rfl⟩,hs,hk⟩
   | _=>rw[hv] at h;exact h.elim
theorem AOpsT_cons {N:List (Nat×List Nat)} {sl0:List Slot} {o:Oper} {ns:List Nat} {T:List (Oper×List Nat)}:AOpsT P m ops N sl0 K ((o,ns)::T) σ=condC (isCallT o) (callOf P m ops N sl0 K ns T σ o.dst o.op) (AOps P m ops (thenT P m ops N sl0 K ns T) [o] σ):=by
 show (if isCallT o=true then _ else _)=_
 cases hc:isCallT o with
 | false=>rfl
 | true =>
   rw[if_pos rfl,condC_true]
   unfold isCallT at hc
   split at hc
   · rename_i c ho
     split at hc
     · rename_i v hf
       rw[callOf_v ho hf]
       unfold callOf
       rw[ho]
       simp only[hf]
       cases v with
       | func f =>
         show callVC P m ops N sl0 K ns T σ o.dst (.fn f []) _=_
         rw[callVC_fn,List.append_nil]
       | tmp t=>rfl
       | _=>simp[isFnO] at hc
     · cases hc
   · cases hc
def afterC (P:Program) (m:Mode) (ops:Array Oper) (N:List (Nat×List Nat)) (sl0:List Slot) (K:St→Prop) (ns:List Nat) (T:List (Oper×List Nat)) (Tm:List V) (d:Option Tmp) (sl:List Slot) (π:List Nat) (r':Option V) (ys:Option (List Slot)):Prop :=
 ∃ r ys',r'=some r∧ys=some ys'∧stableN sl0 (setAll sl π (ys'.take π.length)++ys'.drop π.length) ns N∧AOpsT P m ops N sl0 K T (St.put ⟨Tm,setAll sl π (ys'.take π.length)++ys'.drop π.length⟩ d r)
theorem afterC_some {N:List (Nat×List Nat)} {sl0:List Slot} {ns:List Nat} {T:List (Oper×List Nat)} {Tm:List V} {sl:List Slot} {π:List Nat} {r:V} {ys:List Slot}:afterC P m ops N sl0 K ns T Tm d sl π (some r) (some ys)=(stableN sl0 (setAll sl π (ys.take π.length)++ys.drop π.length) ns N∧AOpsT P m ops N sl0 K T (St.put ⟨Tm,setAll sl π (ys.take π.length)++ys.drop π.length⟩ d r)):=by
 apply propext
 constructor
 · rintro⟨_,_,h1,h2,h⟩;cases h1;cases h2;exact h
 · exact fun h=>⟨_,_,rfl,rfl,h⟩
theorem drawE_of {n:Nat} {s b:Bool} {ops:Array Oper} (ts:List (Nat×List Nat)) (h:drawEOk ops ts=true) (h2:AOpsE P ⟨n,s,false,true⟩ ops ts (beginT P ⟨n,s,false,true⟩ ops (Q .normal) (pickT ops.toList ts)) (pickE ts 0 ops.toList) [] σ):drawD P ⟨n,s,b,true⟩ ops Q σ:=.inl (.inr ⟨ts,h,h2⟩)
theorem drawP_of {n:Nat} {s b:Bool} {ops:Array Oper} (q:Nat) (h:barOk ops q=true) (h2:drawD1 P ⟨n,s,b,true⟩ (headA q ops) (fun e σ1=>e=.normal∧bumpA P ⟨n,s,b,true⟩ (tailA q ops) Q σ1) σ):drawD P ⟨n,s,b,true⟩ ops Q σ:=.inr (.inr (.inl ⟨q,h,h2⟩))
theorem bump_step {n:Nat} {sb b:Bool} {ops:Array Oper} {d0 d1 d2 d3:Nat} {t ty:TypeId} {x y:Operand} {neg:Bool} {s0:TypeId} (s:Nat) (es:List (Ky×Vl)) (ky:Ky) (v:Int) (hok:bumpOk ops=true)
 (h1:ops.toList.map partsO=[(some d0,.lookup t x y false,none),(some d1,.binOp (if neg=true then .sub else .add) ty (.tmp d0) (.const (.int .i64 1)) s0,none),(some d2,.mapEntry t x y,none),(some d3,.extract (.tmp d2) 1,none),(none,.entryStore t x (.tmp d3) (.tmp d1),none)])
 (h2:[d0,d1,d2,d3].Nodup) (h3:∀ d∈[d0,d1,d2,d3],d<σ.tmps.length∧x≠.tmp d∧y≠.tmp d) (h4:mapV σ.slots (σ.eval x)=some (s,t,es)) (h5:kyOf (σ.eval y)=some ky) (h6:zeroVl P t=some (0,none)) (h7:KeyIn P t ky) (h8:(getM es ky).getD (0,none)=(v,none))
 (h9:Q .normal ⟨forget σ.tmps d0 d1 d2 d3,σ.slots.set s (.blk (.mp t (setM es ky (IntKind.i64.wrap (if neg=true then v - 1 else v+1),none))))⟩):bumpA P ⟨n,sb,true,b⟩ ops Q σ :=
 ⟨rfl,hok,d0,d1,d2,d3,t,ty,x,y,neg,s0,s,es,ky,v,h1,h2,h3,h4,h5,h6,h7,h8,h9⟩
theorem shift_step {n:Nat} {sb:Bool} {ops:Array Oper} {dA dB dC dD dE dF dG dH:Nat} {t ti tj:TypeId} {x y:Operand} (k:Nat) (e:TypeId) (es:List (List D)) (at':Nat) (hok:shiftOk ops=true)
 (h1:ops.toList.map partsO=[(some dA,.move x,none),(some dB,.move y,none),(some dC,.binOp .add ti (.tmp dB) (.const (.int .i64 1)) tj,none),(some dD,.slice t (.tmp dA) (some (.tmp dC)) none none,none),(some dE,.move x,none),(some dF,.move y,none),
   (some dG,.slice t (.tmp dE) (some (.tmp dF)) none none,none),(some dH,.call { callee:=.builtin .copy,args:=#[.tmp dD,.tmp dG],argTypes:=#[t,t] },none)])
 (h2:[dA,dB,dC,dD,dE,dF,dG,dH].Nodup) (h3:∀ d∈[dA,dB,dC,dD,dE,dF,dG,dH],d<σ.tmps.length∧x≠.tmp d∧y≠.tmp d) (h4:σ.eval x=.ref k) (h5:σ.slots[k]? = some (.arr e false es)) (h6:elemOf P t=some e) (h7:(P.underlying e).isSome=true) (h8:P.cellsOf e=1) (h9:(P.info? e).map (·.size)=some 1)
 (h10:σ.eval y=.d (.int .i64 at')) (h11:at'<es.length) (h12:Q .normal ⟨forgetL σ.tmps [dA,dB,dC,dD,dE,dF,dG,dH],σ.slots.set k (.arr e false (shiftL es at'))⟩):drawD P ⟨n,sb,true,true⟩ ops Q σ :=
 .inr (.inr (.inr ⟨rfl,hok,dA,dB,dC,dD,dE,dF,dG,dH,t,ti,tj,x,y,k,e,es,at',h1,h2,h3,h4,h5,h6,h7,h8,h9,h10,h11,h12⟩))
theorem drawD1_of {n:Nat} {s b:Bool} {ops:Array Oper} (q:Nat) (h:drawAt ops q=true) (h2:AOps P ⟨n,s,false,true⟩ ops (AOps P ⟨n,s,b,true⟩ ops (Q .normal) (ops.toList.drop q)) (ops.toList.take q) σ):drawD1 P ⟨n,s,b,true⟩ ops Q σ:=.inl ⟨q,h,h2⟩
theorem headA_list {q:Nat} {ops:Array Oper}:(headA q ops).toList=ops.toList.take q:=by unfold headA;simp
theorem AOps_nil:AOps P m ops K [] σ=K σ:=rfl
theorem aops_un {op:Op}:AOps P m ops K (⟨d,op,ty,pos,af,none⟩::rest) σ=AOp P m ⟨d,op,ty,pos,af,none⟩ (AOps P m ops K rest) σ:=rfl
theorem aops_pure {op:Op} (h:AOp P m ⟨d,op,ty,pos,af,none⟩ (AOps P m ops K rest) σ=∃ x news,(apure P m.st σ ⟨d,op,ty,pos,af,none⟩=some x∧news=[])∧AOps P m ops K rest (St.put ⟨σ.tmps,σ.slots++news⟩ d x)):AOps P m ops K (⟨d,op,ty,pos,af,none⟩::rest) σ=nextO P m ops K rest σ d (apure P m.st σ ⟨d,op,ty,pos,af,none⟩):=by
 rw[aops_un];exact aop_pure h
theorem AOp_move:AOps P m ops K (⟨d,.move x,ty,pos,af,none⟩::rest) σ=AOps P m ops K rest (σ.put d (evalT P ty σ x)):=(aops_pure rfl).trans ex_some
theorem AOp_assign:AOps P m ops K (⟨d,.assign x,ty,pos,af,none⟩::rest) σ=AOps P m ops K rest (σ.put d (evalT P ty σ x)):=(aops_pure rfl).trans ex_some
def pickO (t a b:V):Option V :=
 match t with
 | .d (.bool t)=>some (pickV t a b)
 | _=>none
theorem AOp_pick:AOps P m ops K (⟨d,.pick x y z,ty,pos,af,none⟩::rest) σ=nextO P m ops K rest σ d (pickO (σ.eval x) (σ.eval y) (σ.eval z)):=aops_pure rfl
theorem AOp_binOp {op:BinOp}:AOps P m ops K (⟨d,.binOp op t x y s,ty,pos,af,none⟩::rest) σ=nextO P m ops K rest σ d (abinS P σ.slots t op (σ.eval x) (σ.eval y)):=aops_pure rfl
theorem AOp_unOp {op:UnOp}:AOps P m ops K (⟨d,.unOp op t x,ty,pos,af,none⟩::rest) σ=nextO P m ops K rest σ d (aun op (σ.eval x)):=aops_pure rfl
def convO (P:Program) (s t:TypeId) (x:V):Option V :=
 match P.underlying s,P.underlying t,x with
 | some _,some (.int k),.d (.int _ n)=>some (V.d (.int k (k.wrap n)))
 | _,_,_=>none
theorem AOp_convert:AOps P m ops K (⟨d,.convert s t x,ty,pos,af,none⟩::rest) σ=nextO P m ops K rest σ d (convO P s t (σ.eval x)):=aops_pure rfl
def lenO (P:Program) (t:TypeId) (sl:List Slot) (x:V):Option V :=
 match elemOf P t with
 | some _=>(lenV sl x).map fun (n:Nat)=>V.d (.int .i64 (n:Int))
 | none=>none
theorem AOp_len:AOps P m ops K (⟨d,.call ⟨.builtin .len,#[x],#[t]⟩,ty,pos,af,none⟩::rest) σ=nextO P m ops K rest σ d (lenO P t σ.slots (σ.eval x)):=aops_pure rfl
def maxO (x y:V):Option V :=
 match [x,y] with
 | [.d (.int k a),.d (.int _ b)]=>some (V.d (.int k (if b > a then b else a)))
 | _=>none
def minO (x y:V):Option V :=
 match [x,y] with
 | [.d (.int k a),.d (.int _ b)]=>some (V.d (.int k (if b<a then b else a)))
 | _=>none
theorem AOp_max {ts:Array TypeId}:AOps P m ops K (⟨d,.call ⟨.builtin .max,#[x,y],ts⟩,ty,pos,af,none⟩::rest) σ=nextO P m ops K rest σ d (maxO (σ.eval x) (σ.eval y)):=aops_pure rfl
theorem AOp_min {ts:Array TypeId}:AOps P m ops K (⟨d,.call ⟨.builtin .min,#[x,y],ts⟩,ty,pos,af,none⟩::rest) σ=nextO P m ops K rest σ d (minO (σ.eval x) (σ.eval y)):=aops_pure rfl
def idxO (P:Program) (t:TypeId) (sl:List Slot) (x i:V):Option V :=
 match intOf? i with
 | some n=>indexV P t sl x n
 | none=>none
theorem AOp_indexAddr:AOps P m ops K (⟨d,.indexAddr t x y,ty,pos,af,none⟩::rest) σ=nextO P m ops K rest σ d (idxO P t σ.slots (σ.eval x) (σ.eval y)):=aops_pure rfl
theorem AOp_load:AOps P m ops K (⟨d,.load t x,ty,pos,af,none⟩::rest) σ=nextO P m ops K rest σ d (loadV P m.st t σ.slots (σ.eval x)):=aops_pure rfl
theorem AOp_fieldAddr:AOps P m ops K (⟨d,.fieldAddr t x f,ty,pos,af,none⟩::rest) σ=nextO P m ops K rest σ d (fieldAddrV P t σ.slots (σ.eval x) f):=aops_pure rfl
theorem AOp_field:AOps P m ops K (⟨d,.field t x f,ty,pos,af,none⟩::rest) σ=nextO P m ops K rest σ d (fieldV P t (σ.eval x) f):=aops_pure rfl
def extO (x:V) (i:Nat):Option V :=
 match x with
 | .tup xs=>xs[i]?
 | _=>none
theorem AOp_extract:AOps P m ops K (⟨d,.extract x f,ty,pos,af,none⟩::rest) σ=nextO P m ops K rest σ d (extO (σ.eval x) f):=aops_pure rfl
def nilO (sl:List Slot) (x:V):Option V :=
 match x with
 | .ptr s p=>match sl[s]? with
   | some (.var _ _)=>some (V.ptr s p)
   | _=>none
 | .cptr ds=>some (.cptr ds)
 | _=>none
theorem AOp_nilCheck:AOps P m ops K (⟨d,.nilCheck x,ty,pos,af,none⟩::rest) σ=nextO P m ops K rest σ d (nilO σ.slots (σ.eval x)):=aops_pure rfl
def buildA (P:Program) (e:TypeId) (z:List V) (ps:List (Nat×V)):Option V:=(fillV (fun i=>some (i*P.cellsOf e,P.cellsOf e)) z ps).map .agg
def buildO (P:Program) (t:TypeId) (ps:List (Nat×V)):Option V :=
 match P.underlying t,zeroV P t with
 | some (.struct _),some z=>(fillV (placeOf P t) z ps).map .agg
 | some (.array _ e),some z=>buildA P e z ps
 | _,_=>none
theorem AOp_build {ps:Array (Nat×Operand)}:AOps P m ops K (⟨d,.build t ps,ty,pos,af,none⟩::rest) σ=nextO P m ops K rest σ d (buildO P t (ps.toList.map fun p=>(p.1,σ.eval p.2))):=aops_pure rfl
def nextZ (P:Program) (m:Mode) (ops:Array Oper) (K:St→Prop) (rest:List Oper) (σ:St) (d:Option Tmp) (t:TypeId) (v:Option (List V)):Prop:=∃ z,v=some z∧AOps P m ops K rest (St.put ⟨σ.tmps,σ.slots++[.var t z]⟩ d (.ptr σ.slots.length 0))
theorem nextZ_some {v:List V}:nextZ P m ops K rest σ d t (some v)=AOps P m ops K rest (St.put ⟨σ.tmps,σ.slots++[.var t v]⟩ d (.ptr σ.slots.length 0)):=by
 apply propext
 constructor
 · rintro⟨x,h,hk⟩;cases h;exact hk
 · exact fun h=>⟨v,rfl,h⟩
theorem AOp_alloc:AOps P m ops K (⟨d,.alloc t,ty,pos,af,none⟩::rest) σ=nextZ P m ops K rest σ d t (zeroV P t):=by
 rw[aops_un]
 apply propext
 constructor
 · rintro⟨x,news,⟨z,h1,rfl,rfl⟩,h2⟩;exact⟨z,h1,h2⟩
 · rintro⟨z,h1,h2⟩;exact⟨_,_,⟨z,h1,rfl,rfl⟩,h2⟩
theorem AOp_box:AOps P m ops K (⟨d,.box t x,ty,pos,af,none⟩::rest) σ=((cellsV (σ.eval x)).all V.cell=true∧AOps P m ops K rest (St.put ⟨σ.tmps,σ.slots++[.var t (cellsV (σ.eval x))]⟩ d (.ptr σ.slots.length 0))):=by
 rw[aops_un]
 apply propext
 constructor
 · rintro⟨y,news,⟨h1,rfl,rfl⟩,h2⟩;exact⟨h1,h2⟩
 · rintro⟨h1,h2⟩;exact⟨_,_,⟨h1,rfl,rfl⟩,h2⟩
def afterCall (P:Program) (m:Mode) (ops:Array Oper) (K:St→Prop) (rest:List Oper) (σ:St) (d:Option Tmp) (r:X):Prop:=AOps P m ops K rest (St.put ⟨σ.tmps,σ.slots++(inst σ.slots.length r).2⟩ d (inst σ.slots.length r).1)
def callG (P:Program) (m:Mode) (ops:Array Oper) (K:St→Prop) (rest:List Oper) (σ:St) (d:Option Tmp) (fn:FuncId) (p:Option (List X)) (xs:List V):Prop :=
 (∃ r,CallA P fn p r∧afterCall P m ops K rest σ d r)∨(CallT P m σ.slots fn xs (fun z sl'=>AOps P m ops K rest (St.put ⟨σ.tmps,sl'⟩ d z))∨CallS P m σ.slots fn xs fun z sl'=>AOps P m ops K rest (St.put ⟨σ.tmps,sl'⟩ d z))
def callV (P:Program) (m:Mode) (ops:Array Oper) (K:St→Prop) (rest:List Oper) (σ:St) (d:Option Tmp) (v:V) (xs:List V):Prop :=
 match v with
 | .fn f caps=>callG P m ops K rest σ d f (presAll σ.slots (xs++caps)) (xs++caps)
 | _=>False
theorem callV_fn {f:FuncId} {caps xs:List V}:callV P m ops K rest σ d (.fn f caps) xs=callG P m ops K rest σ d f (presAll σ.slots (xs++caps)) (xs++caps):=rfl
theorem AOp_callv {v:Operand} {args:Array Operand} {ts:Array TypeId}:AOps P m ops K (⟨d,.call ⟨.value v,args,ts⟩,ty,pos,af,none⟩::rest) σ=callV P m ops K rest σ d (σ.eval v) (args.toList.map σ.eval):=by
 rw[aops_un]
 unfold callV callG afterCall
 show ((∃ x news,AQ P m.st σ.slots.length σ _ x news∧_)∨(match σ.eval v with | .fn f caps=>_|_=>False))=_
 unfold AQ
 simp only
 generalize σ.eval v=g
 cases g with
 | fn f caps =>
   simp only
   apply propext
   constructor
   · rintro (⟨y,news,⟨r,h1,rfl,rfl⟩,h2⟩|h)
     · exact .inl ⟨r,h1,h2⟩
     · exact .inr h
   · rintro (⟨r,h1,h2⟩|h)
     · exact .inl ⟨_,_,⟨r,h1,rfl,rfl⟩,h2⟩
     · exact .inr h
 | _=>simp
theorem AOp_call {fn:FuncId} {args:Array Operand} {ts:Array TypeId}:AOps P m ops K (⟨d,.call ⟨.value (.func fn),args,ts⟩,ty,pos,af,none⟩::rest) σ=callG P m ops K rest σ d fn (presAll σ.slots (args.toList.map σ.eval)) (args.toList.map σ.eval):=by
 rw[AOp_callv]
 show callV P m ops K rest σ d (.fn fn []) _=_
 rw[callV_fn,List.append_nil]
theorem call_step {fn:FuncId} {xs:List X} {ys:List V} {r:X} (h:ConC P fn xs r) (h2:afterCall P m ops K rest σ d r):callG P m ops K rest σ d fn (some xs) ys:=.inl ⟨r,callA h,h2⟩
def enterT (sl:List Slot) (ks π:List Nat) (xs args:List V) (slc:List Slot):Prop :=
 lives slc∧ks.Nodup∧arrsOk sl ks∧π.Nodup∧leSlots true (kill ks sl) π π slc∧leTmps true (kill ks sl) π (xs.map (viewV sl ks)) args
def afterT (P:Program) (m:Mode) (ops:Array Oper) (K:St→Prop) (rest:List Oper) (T:List V) (d:Option Tmp) (sl:List Slot) (π:List Nat) (r':Option V) (ys:Option (List Slot)):Prop :=
 ∃ r ys',r'=some r∧ys=some ys'∧AOps P m ops K rest (St.put ⟨T,setAll sl π (ys'.take π.length)++ys'.drop π.length⟩ d r)
theorem afterT_some {T:List V} {sl:List Slot} {π:List Nat} {r:V} {ys:List Slot}:afterT P m ops K rest T d sl π (some r) (some ys)=AOps P m ops K rest (St.put ⟨T,setAll sl π (ys.take π.length)++ys.drop π.length⟩ d r):=by
 apply propext
 constructor
 · rintro⟨_,_,h1,h2,h⟩;cases h1;cases h2;exact h
 · exact fun h=>⟨_,_,rfl,rfl,h⟩
theorem callT_step {n:Nat} {fn:FuncId} {p:Option (List X)} {xs args:List V} {slc slc':List Slot} {r:V} (h:ConT P fn args slc r slc') (ks π:List Nat) (he:enterT σ.slots ks π xs args slc)
 (ha:afterT P ⟨n,false,true,dr⟩ ops K rest σ.tmps d (kill ks σ.slots) π (renT (π++List.range' (kill ks σ.slots).length (slc'.length - π.length)) r) (renSs (π++List.range' (kill ks σ.slots).length (slc'.length - π.length)) slc')):callG P ⟨n,false,true,dr⟩ ops K rest σ d fn p xs:=by
 obtain⟨h1,h2,h3,h4,h5,h6⟩:=he
 obtain⟨r',ys,k1,k2,k3⟩:=ha
 exact .inr (.inl ⟨rfl,rfl,ks,π,args,slc,r,slc',h,h1,h2,h3,h4,h5,h6,r',ys,k1,k2,k3⟩)
theorem callC_step {n:Nat} {b:Bool} {N:List (Nat×List Nat)} {sl0:List Slot} {ns:List Nat} {T:List (Oper×List Nat)} {fn:FuncId} {xs near args:List V} {slc slc':List Slot} {r:V} (h:ConT P fn args slc r slc') (ks π:List Nat) (he:enterT σ.slots ks π xs args slc) (hn:∀ k∈ks++π,nearTo σ.slots near k)
 (ha:afterC P ⟨n,false,b,dr⟩ ops N sl0 K ns T σ.tmps d (kill ks σ.slots) π (renT (π++List.range' (kill ks σ.slots).length (slc'.length - π.length)) r) (renSs (π++List.range' (kill ks σ.slots).length (slc'.length - π.length)) slc')):callCG P ⟨n,false,b,dr⟩ ops N sl0 K ns T σ d fn xs near:=by
 obtain⟨h1,h2,h3,h4,h5,h6⟩:=he
 obtain⟨r',ys,k1,k2,k3⟩:=ha
 exact⟨rfl,ks,π,args,slc,r,slc',h,h1,h2,h3,h4,h5,h6,hn,r',ys,k1,k2,k3⟩
def partO (P:Program) (t:TypeId) (σ:St) (x:V) (lo hi:Option Operand):Option V :=
 match lenV σ.slots x with
 | some n=>partV P t x (boundV σ lo 0) (boundV σ hi n)
 | none=>none
def sliceL (P:Program) (t:TypeId) (σ:St) (s:Nat) (lo hi:Option Operand):Option (V×List Slot) :=
 match lenV σ.slots (.ref s) with
 | some n=>sliceT P t σ.slots s lo hi (boundV σ lo 0) (boundV σ hi n)
 | none=>none
def nextT (P:Program) (m:Mode) (ops:Array Oper) (K:St→Prop) (rest:List Oper) (σ:St) (d:Option Tmp) (v:Option (V×List Slot)):Prop:=m.tc=true∧m.st=false∧∃ z sl',v=some (z,sl')∧AOps P m ops K rest (St.put ⟨σ.tmps,sl'⟩ d z)
theorem nextT_some {z:V} {sl':List Slot}:nextT P m ops K rest σ d (some (z,sl'))=(m.tc=true∧m.st=false∧AOps P m ops K rest (St.put ⟨σ.tmps,sl'⟩ d z)):=by
 apply propext
 constructor
 · rintro⟨h1,h2,_,_,h,hk⟩;cases h;exact⟨h1,h2,hk⟩
 · exact fun ⟨h1,h2,h⟩=>⟨h1,h2,_,_,rfl,h⟩
def sliceO (P:Program) (m:Mode) (ops:Array Oper) (K:St→Prop) (rest:List Oper) (σ:St) (d:Option Tmp) (t:TypeId) (x:V) (lo hi:Option Operand):Prop :=
 match x with
 | .ref s=>nextT P m ops K rest σ d (sliceL P t σ s lo hi)
 | x=>nextO P m ops K rest σ d (partO P t σ x lo hi)
theorem AOp_slice {lo hi:Option Operand}:AOps P m ops K (⟨d,.slice t x lo hi none,ty,pos,af,none⟩::rest) σ=sliceO P m ops K rest σ d t (σ.eval x) lo hi:=by
 rw[aops_un]
 unfold sliceO
 have quiet:∀ v,σ.eval x=v→(∃ z news,AQ P m.st σ.slots.length σ ⟨d,.slice t x lo hi none,ty,pos,af,none⟩ z news∧AOps P m ops K rest (St.put ⟨σ.tmps,σ.slots++news⟩ d z))=nextO P m ops K rest σ d (partO P t σ v lo hi):=by
  rintro v rfl
  unfold nextO
  apply propext
  constructor
  · rintro⟨z,news,⟨h1,rfl⟩,h2⟩
    rw[List.append_nil] at h2
    exact⟨z,h1,h2⟩
  · rintro⟨z,h1,h2⟩
    exact⟨z,[],⟨h1,rfl⟩,by rw[List.append_nil];exact h2⟩
 cases hv:σ.eval x with
 | ref s =>
   show (match σ.eval x with | .ref s=>_|_=>_)=_
   rw[hv]
   simp only
   unfold nextT sliceL
   apply propext
   constructor
   · rintro⟨h1,h2,n,z,sl',h3,h4,h5⟩
     refine⟨h1,h2,z,sl',?_,h5⟩
     rw[h3]
     exact h4
   · rintro⟨h1,h2,z,sl',h3,h4⟩
     split at h3
     · rename_i n hn
       exact⟨h1,h2,n,z,sl',hn,h3,h4⟩
     · cases h3
 | _ =>
   show (match σ.eval x with | .ref s=>_|_=>_)=_
   rw[hv]
   simp only
   exact quiet _ hv
def funcO (f:FuncId) (first:Array Operand) (caps:List V):Option V:=if first.isEmpty=true then some (.fn f caps) else none
theorem AOp_makeFunc {fn:FuncId} {first caps:Array Operand}:AOps P m ops K (⟨d,.makeFunc (.func fn) first caps,ty,pos,af,none⟩::rest) σ=nextO P m ops K rest σ d (funcO fn first (caps.toList.map σ.eval)):=aops_pure rfl
def nextS (P:Program) (m:Mode) (ops:Array Oper) (K:St→Prop) (rest:List Oper) (σ:St) (d:Option Tmp) (v:Option (List Slot)):Prop:=∃ sl',v=some sl'∧AOps P m ops K rest (St.put ⟨σ.tmps,sl'⟩ d .any)
theorem nextS_some {v:List Slot}:nextS P m ops K rest σ d (some v)=AOps P m ops K rest (St.put ⟨σ.tmps,v⟩ d .any):=by
 apply propext
 constructor
 · rintro⟨x,h,hk⟩;cases h;exact hk
 · exact fun h=>⟨v,rfl,h⟩
def lookG (P:Program) (m:Mode) (ops:Array Oper) (K:St→Prop) (rest:List Oper) (σ:St) (d:Option Tmp) (t:TypeId) (ok:Bool) (q:Option (Nat×TypeId×List (Ky×Vl))) (k:Option Ky) (z:Option Vl):Prop :=
 ∃ s es ky z',q=some (s,t,es)∧k=some ky∧z=some z'∧KeyIn P t ky∧AOps P m ops K rest (σ.put d (lookV ok (getM es ky) z'))
theorem lookG_some {ok:Bool} {s:Nat} {t':TypeId} {es:List (Ky×Vl)} {ky:Ky} {z:Vl}:lookG P m ops K rest σ d t ok (some (s,t',es)) (some ky) (some z)=(t'=t∧KeyIn P t ky∧AOps P m ops K rest (σ.put d (lookV ok (getM es ky) z))):=by
 apply propext
 constructor
 · rintro⟨_,_,_,_,h1,h2,h3,h4,h5⟩;cases h1;cases h2;cases h3;exact⟨rfl,h4,h5⟩
 · rintro⟨rfl,h4,h5⟩;exact⟨_,_,_,_,rfl,rfl,rfl,h4,h5⟩
theorem AOp_lookup {ok:Bool}:AOps P m ops K (⟨d,.lookup t x y ok,ty,pos,af,none⟩::rest) σ=lookG P m ops K rest σ d t ok (mapV σ.slots (σ.eval x)) (kyOf (σ.eval y)) (zeroVl P t):=by
 rw[aops_un]
 apply propext
 constructor
 · rintro⟨v,news,⟨s,es,ky,z,h1,h2,h3,h4,rfl,rfl⟩,h6⟩
   rw[List.append_nil] at h6
   exact⟨s,es,ky,z,h1,h2,h3,h4,h6⟩
 · rintro⟨s,es,ky,z,h1,h2,h3,h4,h6⟩
   exact⟨_,[],⟨s,es,ky,z,h1,h2,h3,h4,rfl,rfl⟩,by rw[List.append_nil];exact h6⟩
theorem AOp_makeMap:AOps P m ops K (⟨d,.makeMap t none,ty,pos,af,none⟩::rest) σ=AOps P m ops K rest (St.put ⟨σ.tmps,σ.slots++[.blk (.mp t [])]⟩ d (.ref σ.slots.length)):=by
 rw[aops_un]
 apply propext
 constructor
 · rintro⟨v,news,⟨rfl,rfl⟩,h6⟩;exact h6
 · exact fun h=>⟨_,_,⟨rfl,rfl⟩,h⟩
def updG (P:Program) (m:Mode) (ops:Array Oper) (K:St→Prop) (rest:List Oper) (σ:St) (d:Option Tmp) (t:TypeId) (q:Option (Nat×TypeId×List (Ky×Vl))) (k:Option Ky) (v:Option Vl):Prop :=
 m.tc=true∧∃ s es ky v',q=some (s,t,es)∧k=some ky∧v=some v'∧KeyIn P t ky∧AOps P m ops K rest (St.put ⟨σ.tmps,σ.slots.set s (.blk (.mp t (setM es ky v')))⟩ d .any)
theorem updG_some {s:Nat} {t':TypeId} {es:List (Ky×Vl)} {ky:Ky} {v:Vl}:updG P m ops K rest σ d t (some (s,t',es)) (some ky) (some v)=(m.tc=true∧t'=t∧KeyIn P t ky∧AOps P m ops K rest (St.put ⟨σ.tmps,σ.slots.set s (.blk (.mp t (setM es ky v)))⟩ d .any)):=by
 apply propext
 constructor
 · rintro⟨h0,_,_,_,_,h1,h2,h3,h4,h5⟩;cases h1;cases h2;cases h3;exact⟨h0,rfl,h4,h5⟩
 · rintro⟨h0,rfl,h4,h5⟩;exact⟨h0,_,_,_,_,rfl,rfl,rfl,h4,h5⟩
theorem AOp_mapUpdate:AOps P m ops K (⟨d,.mapUpdate t x y z,ty,pos,af,none⟩::rest) σ=updG P m ops K rest σ d t (mapV σ.slots (σ.eval x)) (kyOf (σ.eval y)) (vlOf (σ.eval z)):=rfl
theorem AOp_store:AOps P m ops K (⟨d,.store t x y,ty,pos,af,none⟩::rest) σ=nextS P m ops K rest σ d (storeV P m.st t σ.slots (σ.eval x) (evalT P t σ y)):=rfl
def appO (P:Program) (m:Mode) (ops:Array Oper) (K:St→Prop) (rest:List Oper) (σ:St) (d:Option Tmp) (t:TypeId) (x y:V):Prop:=AAppX P m σ.slots t x y fun z sl'=>AOps P m ops K rest (St.put ⟨σ.tmps,sl'⟩ d z)
theorem AOp_append:AOps P m ops K (⟨d,.call ⟨.builtin .append,#[x,y],#[t,t]⟩,ty,pos,af,none⟩::rest) σ=appO P m ops K rest σ d t (evalT P t σ x) (evalT P t σ y):=by
 rw[aops_un]
 show (t=t∧_)=_
 simp only[true_and]
 rfl
def nextL (P:Program) (m:Mode) (ops:Array Oper) (K:St→Prop) (rest:List Oper) (σ:St) (d:Option Tmp) (v:Option (V×Slot)):Prop:=∃ x y,v=some (x,y)∧AOps P m ops K rest (St.put ⟨σ.tmps,σ.slots++[y]⟩ d x)
theorem nextL_some {v:V} {y:Slot}:nextL P m ops K rest σ d (some (v,y))=AOps P m ops K rest (St.put ⟨σ.tmps,σ.slots++[y]⟩ d v):=by
 apply propext
 constructor
 · rintro⟨x,y,h,hk⟩;cases h;exact hk
 · exact fun h=>⟨v,y,rfl,h⟩
def litC (n:Nat) (e:TypeId) (s len:Nat) (cells:List V):V×Slot :=
 match plains cells with
 | some ds=>(.ref n,.arr e (cells.all scalarV) (chunks s len ds))
 | none=>(.lit n len,.var e cells)
def litO (P:Program) (n:Nat) (t:TypeId) (len:Nat) (ps:List (Nat×V)):Option (V×Slot) :=
 match elemOf P t with
 | none=>none
 | some e=>match zeroV P e with
   | none=>none
   | some z=>if len*z.length≤16777216∧len≤9223372036854775807 then (fillV (fun i=>some (i*z.length,z.length)) (List.replicate len z).flatten ps).map (litC n e z.length len) else none
theorem litO_eq {n t len:Nat} {ps:List (Nat×V)}:litV P σ n t len ps=litO P n t len ps:=by
 unfold litV litO
 cases he:elemOf P t with
 | none=>rfl
 | some e =>
   simp only
   cases hz:zeroV P e with
   | none=>rfl
   | some z =>
     simp only
     split
     · cases hf:fillV (fun i=>some (i*z.length,z.length)) (List.replicate len z).flatten ps with
       | none=>rfl
       | some cells=>simp only[Option.map_some,litC];cases plains cells<;>rfl
     · rfl
def adoptO (P:Program) (b:Bool) (sl:List Slot) (t:TypeId) (len:Nat) (ps:List (Nat×V)):Option (Slot×List Nat) :=
 if b=true then
  match elemOf P t with
  | none=>none
  | some e=>match zeroV P e with
    | none=>none
    | some z=>if len*z.length≤16777216∧len≤9223372036854775807 then (fillV (fun i=>some (i*z.length,z.length)) (List.replicate len z).flatten ps).bind (adoptC e z.length len sl) else none
 else none
theorem adoptO_eq {b:Bool} {sl:List Slot} {t len:Nat} {ps:List (Nat×V)}:adoptV P b sl t len ps=adoptO P b sl t len ps:=by
 unfold adoptV adoptO
 cases b with
 | false=>rfl
 | true =>
   simp only[if_true]
   cases he:elemOf P t with
   | none=>rfl
   | some e =>
     simp only
     cases hz:zeroV P e with
     | none=>rfl
     | some z =>
       simp only
       split
       · cases hf:fillV (fun i=>some (i*z.length,z.length)) (List.replicate len z).flatten ps<;>rfl
       · rfl
def nextB (P:Program) (m:Mode) (ops:Array Oper) (K:St→Prop) (rest:List Oper) (σ:St) (d:Option Tmp) (q:Option (Slot×List Nat)) (v:Option (V×Slot)):Prop :=
 match q with
 | some (y,ks)=>AOps P m ops K rest (St.put ⟨σ.tmps,kill ks σ.slots++[y]⟩ d (.ref σ.slots.length))
 | none=>nextL P m ops K rest σ d v
theorem nextB_some {y:Slot} {ks:List Nat} {v:Option (V×Slot)}:nextB P m ops K rest σ d (some (y,ks)) v=AOps P m ops K rest (St.put ⟨σ.tmps,kill ks σ.slots++[y]⟩ d (.ref σ.slots.length)):=rfl
theorem nextB_none {v:Option (V×Slot)}:nextB P m ops K rest σ d none v=nextL P m ops K rest σ d v:=rfl
@[congr] theorem nextB_congr {q q':Option (Slot×List Nat)} {v:Option (V×Slot)} (h:q=q'):nextB P m ops K rest σ d q v=nextB P m ops K rest σ d q' v:=by rw[h]
theorem AOp_buildSlice {ps:Array (Nat×Operand)}:AOps P m ops K (⟨d,.buildSlice t n ps,ty,pos,af,none⟩::rest) σ=nextB P m ops K rest σ d (adoptO P (m.tc&&!m.st) σ.slots t n (ps.toList.map fun p=>(p.1,σ.eval p.2))) (litO P σ.slots.length t n (ps.toList.map fun p=>(p.1,σ.eval p.2))):=by
 rw[aops_un]
 unfold AOp
 simp only
 rw[adoptO_eq]
 split
 · rename_i hq
   rw[hq]
   rfl
 · rename_i hq
   rw[hq]
   apply propext
   constructor
   · rintro⟨x,news,⟨y,h1,rfl⟩,h2⟩;exact⟨x,y,litO_eq (σ:=σ)▸h1,h2⟩
   · rintro⟨x,y,h1,h2⟩;exact⟨_,_,⟨y,by rw[litO_eq];exact h1,rfl⟩,h2⟩
def makeO (P:Program) (t:TypeId) (x y:V):Option (Int×Int×TypeId×List D) :=
 match elemOf P t,intOf? x,intOf? y with
 | some e,some m,some m'=>match zeroV P e with
   | some z=>match plains z with
     | some zd=>if z.all scalarV=true∧P.bytesOf e≤128 then some (m,m',e,zd) else none
     | none=>none
   | none=>none
 | _,_,_=>none
def nextM (P:Program) (m:Mode) (ops:Array Oper) (K:St→Prop) (rest:List Oper) (σ:St) (d:Option Tmp) (v:Option (Int×Int×TypeId×List D)):Prop:=∃ q e zd,v=some (q,q,e,zd)∧(0≤q∧q≤1099511627776)∧AOps P m ops K rest (St.put ⟨σ.tmps,σ.slots++[.arr e true (List.replicate q.toNat zd)]⟩ d (.ref σ.slots.length))
theorem nextM_some {q:Int} {e:TypeId} {zd:List D}:nextM P m ops K rest σ d (some (q,q,e,zd))=((0≤q∧q≤1099511627776)∧AOps P m ops K rest (St.put ⟨σ.tmps,σ.slots++[.arr e true (List.replicate q.toNat zd)]⟩ d (.ref σ.slots.length))):=by
 apply propext
 constructor
 · rintro⟨q,e,zd,h,hk⟩;cases h;exact hk
 · exact fun h=>⟨q,e,zd,rfl,h⟩
theorem AOp_makeSlice:AOps P m ops K (⟨d,.makeSlice t x y,ty,pos,af,none⟩::rest) σ=nextM P m ops K rest σ d (makeO P t (σ.eval x) (σ.eval y)):=by
 rw[aops_un]
 apply propext
 constructor
 · rintro⟨x,news,⟨e,z,zd,q,h1,h2,h3,h4,h5,h6,h7,h8,h9,rfl,rfl⟩,h10⟩
   refine⟨q,e,zd,?_,⟨h7,h8⟩,h10⟩
   unfold makeO
   rw[h1,h5,h6]
   simp only[h2,h3]
   rw[if_pos ⟨h4,h9⟩]
 · rintro⟨q,e,zd,h,⟨h7,h8⟩,h10⟩
   unfold makeO at h
   split at h
   · rename_i e' m1 m2 h1 h5 h6
     split at h
     · rename_i z h2
       split at h
       · rename_i zd' h3
         split at h
         · rename_i h4
           cases h
           exact⟨_,_,⟨e,z,zd,q,h1,h2,h3,h4.1,h5,h6,h7,h8,h4.2,rfl,rfl⟩,h10⟩
         · cases h
       · cases h
     · cases h
   · cases h
def guardG (P:Program) (m:Mode) (ops:Array Oper) (K:St→Prop) (o:Oper) (rest:List Oper) (σ:St) (dj:Nat) (b:Bool) (v:V):Prop :=
 match v with
 | .d (.bool t)=>condB (t==b) (AOps P m ops K (o::rest) (σ.put (some dj) (.d (.bool b)))) (AOps P m ops K rest ((σ.put (some dj) (.d (.bool (!b)))).put o.dst (.tup [])))
 | .tup []=>AOps P m ops K rest (σ.put o.dst (.tup []))
 | _=>False
theorem guardG_bool {o:Oper} {dj:Nat} {b t:Bool}:guardG P m ops K o rest σ dj b (.d (.bool t))=condG (t==b) (AOps P m ops K (o::rest) (σ.put (some dj) (.d (.bool b)))) (AOps P m ops K rest ((σ.put (some dj) (.d (.bool (!b)))).put o.dst (.tup []))):=rfl
theorem guardG_undef {o:Oper} {dj:Nat} {b:Bool}:guardG P m ops K o rest σ dj b (.tup [])=AOps P m ops K rest (σ.put o.dst (.tup [])):=rfl
def guardD (P:Program) (m:Mode) (ops:Array Oper) (K:St→Prop) (o:Oper) (rest:List Oper) (σ:St) (b:Bool) (dj:Option Nat):Prop :=
 match dj with
 | some d=>guardG P m ops K o rest σ d b (σ.get d)
 | none=>False
theorem guardD_some {o:Oper} {dj:Nat} {b:Bool}:guardD P m ops K o rest σ b (some dj)=guardG P m ops K o rest σ dj b (σ.get dj):=rfl
theorem AOp_guard {op:Op} {j:Nat} {b:Bool}:AOps P m ops K (⟨d,op,ty,pos,af,some (j,b)⟩::rest) σ=guardD P m ops K ⟨d,op,ty,pos,af,none⟩ rest σ b ((ops[j]?).bind (·.dst)):=by
 have e:∀ σ',AOps P m ops K (⟨d,op,ty,pos,af,none⟩::rest) σ'=AOp P m ⟨d,op,ty,pos,af,some (j,b)⟩ (AOps P m ops K rest) σ':=fun σ'=>rfl
 unfold guardD
 conv=>lhs;unfold AOps
 simp only
 cases hd:(ops[j]?).bind (·.dst) with
 | none=>rfl
 | some dj =>
   simp only
   unfold guardG
   cases hv:σ.get dj with
   | d x=>cases x with
     | bool t =>
       simp only[condB,e]
       cases t<;>cases b<;>simp
     | _=>rfl
   | tup xs=>cases xs<;>rfl
   | _=>rfl
end
def Round {ι:Type} (m:Mode) (I:ι→Prop) (S:ι→St) (μ:ι→Nat) (i:ι) (σ':St):Prop:=∃ j,I j∧μ j<μ i∧Le m σ' (S j)
theorem aw_loop {c:Code} {ι:Type} (I:ι→Prop) (S:ι→St) (μ:ι→Nat) (i0:ι) (h0:I i0) (hle:Le m σ (S i0)) (hr:∀ i,I i→AWp P m c (thenA (Round m I S μ i) Q) (S i)):AWp P m (.loop c) Q σ :=
 ⟨ι,I,S,μ,i0,h0,hle,hr⟩
end
def frame (n:Nat) (l:List (Nat×V)):List V:=l.foldl (fun T p=>T.set p.1 p.2) (List.replicate n .any)
theorem wrap_id {x:Int} (h1:-9223372036854775808≤x) (h2:x≤9223372036854775807):IntKind.i64.wrap x=x:=by rw[IntKind.wrap_i64];omega
theorem nat_neg (k:Nat):((k:Int)<0)=False:=by
 apply propext;constructor
 · intro h;omega
 · exact False.elim
def rng (n lo hi:Int):Bool:=decide (lo≤n)&&decide (n≤hi)
theorem take_snoc' {α:Type} {xs:List α} {k:Nat} {x:α} (hx:xs[k]? = some x):xs.take (k+1)=xs.take k++[x]:=by
 obtain⟨hk,rfl⟩:=List.getElem?_eq_some_iff.1 hx
 exact List.take_succ_eq_append_getElem hk
theorem all_snoc' {α:Type} {xs:List α} {p:α→Bool} {k:Nat} {x:α} (hx:xs[k]? = some x):(xs.take (k+1)).all p=((xs.take k).all p&&p x):=by
 rw[take_snoc' hx];simp
theorem all_not' {α:Type} {xs:List α} {p:α→Bool} {k:Nat} {x:α} (hx:xs[k]? = some x) (h:p x=false):xs.all p=false:=by
 rw[Bool.eq_false_iff,ne_eq,List.all_eq_true]
 intro hh
 have:=hh x (List.mem_of_getElem? hx)
 rw[h] at this
 cases this
theorem aw_loop' {P:Program} {m:Mode} {Q:Exit→St→Prop} {σ:St} {c:Code} {ι:Type} (I:ι→Prop) (S:ι→St) (μ:ι→Nat) (i0:ι) (h0:I i0) (hle:Le m σ (S i0))
 (hr:∀ (I':ι→Prop) (S':ι→St) (μ':ι→Nat),(∀ i,I' i↔I i)→(∀ i,S' i=S i)→(∀ i,μ' i=μ i)→∀ i,I i→AWp P m c (thenA (Round m I' S' μ' i) Q) (S i)):AWp P m (.loop c) Q σ :=
 aw_loop I S μ i0 h0 hle fun i hi=>hr I S μ (fun _=>Iff.rfl) (fun _=>rfl) (fun _=>rfl) i hi
theorem round_of {m:Mode} {ι:Type} {I I':ι→Prop} {S S':ι→St} {μ μ':ι→Nat} {i:ι} {σ':St} (hI:∀ i,I' i↔I i) (hS:∀ i,S' i=S i) (hμ:∀ i,μ' i=μ i) (j:ι) (h1:I j) (h2:μ j<μ i) (h3:Le m σ' (S j)):Round m I' S' μ' i σ' :=
 ⟨j,(hI j).2 h1,by rw[hμ,hμ];exact h2,by rw[hS];exact h3⟩
def keepT:List Bool→List V→List V
 | true::ms,x::xs=>x::keepT ms xs
 | false::ms,_::xs=>.any::keepT ms xs
 | _,xs=>xs
def sets {α:Type} (xs:List α):List (Nat×α)→List α
 | []=>xs
 | p::ps=>sets (xs.set p.1 p.2) ps
theorem aw_loopU {P:Program} {m:Mode} {Q:Exit→St→Prop} {c:Code} {T:List V} {sl0:List Slot} {ι:Type} (mask:List Bool) (I:ι→Prop) (upd:ι→List (Nat×V)) (usl:ι→List (Nat×Slot)) (μ:ι→Nat) (i0:ι) (h0:I i0)
 (hle:Le m ⟨T,sl0⟩ ⟨sets (keepT mask T) (upd i0),sets sl0 (usl i0)⟩)
 (hr:∀ (I':ι→Prop) (S':ι→St) (μ':ι→Nat),(∀ i,I' i↔I i)→(∀ i,S' i=⟨sets (keepT mask T) (upd i),sets sl0 (usl i)⟩)→(∀ i,μ' i=μ i)→∀ i,I i→AWp P m c (thenA (Round m I' S' μ' i) Q) ⟨sets (keepT mask T) (upd i),sets sl0 (usl i)⟩):AWp P m (.loop c) Q ⟨T,sl0⟩ :=
 aw_loop' I (fun i=>⟨sets (keepT mask T) (upd i),sets sl0 (usl i)⟩) μ i0 h0 hle hr
def shr64 (a b:Int):Int:=a.fdiv (2 ^ min b.toNat 64)
def shl64 (a b:Int):Int:=IntKind.i64.wrap (a*2 ^ min b.toNat 64)
def and64 (a b:Int):Int:=IntKind.i64.wrap (BitVec.ofInt 64 a &&& BitVec.ofInt 64 b).toNat
def or64 (a b:Int):Int:=IntKind.i64.wrap (BitVec.ofInt 64 a ||| BitVec.ofInt 64 b).toNat
def xor64 (a b:Int):Int:=IntKind.i64.wrap (BitVec.ofInt 64 a ^^^ BitVec.ofInt 64 b).toNat
def andn64 (a b:Int):Int:=IntKind.i64.wrap (BitVec.ofInt 64 a &&& ~~~BitVec.ofInt 64 b).toNat
section
variable {P:Program} {t:TypeId} {k k':IntKind} {a b:Int} {x y:Bool}
theorem abin_add:abin P t .add (.d (.int k a)) (.d (.int k b))=some (.d (.int k (k.wrap (a+b)))):=by simp[abin]
theorem abin_sub:abin P t .sub (.d (.int k a)) (.d (.int k b))=some (.d (.int k (k.wrap (a - b)))):=by simp[abin]
theorem abin_mul:abin P t .mul (.d (.int k a)) (.d (.int k b))=some (.d (.int k (k.wrap (a*b)))):=by simp[abin]
theorem abin_quo:abin P t .quo (.d (.int k a)) (.d (.int k b))=if b=0 then none else some (.d (.int k (k.wrap (a.tdiv b)))):=by simp[abin]
theorem abin_rem:abin P t .rem (.d (.int k a)) (.d (.int k b))=if b=0 then none else some (.d (.int k (a.tmod b))):=by simp[abin]
theorem abin_and:abin P t .and (.d (.int .i64 a)) (.d (.int .i64 b))=some (.d (.int .i64 (and64 a b))):=rfl
theorem abin_or:abin P t .or (.d (.int .i64 a)) (.d (.int .i64 b))=some (.d (.int .i64 (or64 a b))):=rfl
theorem abin_xor:abin P t .xor (.d (.int .i64 a)) (.d (.int .i64 b))=some (.d (.int .i64 (xor64 a b))):=rfl
theorem abin_andNot:abin P t .andNot (.d (.int .i64 a)) (.d (.int .i64 b))=some (.d (.int .i64 (andn64 a b))):=rfl
theorem abin_shl:abin P t .shl (.d (.int .i64 a)) (.d (.int k b))=if 0≤b then some (.d (.int .i64 (shl64 a b))) else none:=by simp[abin,shl64,IntKind.bits]
theorem abin_shr:abin P t .shr (.d (.int .i64 a)) (.d (.int k b))=if 0≤b then some (.d (.int .i64 (shr64 a b))) else none:=by simp[abin,shr64,IntKind.bits]
theorem abin_shlu:abin P t .shl (.d (.int .u64 a)) (.d (.int k b))=if 0≤b then some (.d (.int .u64 (IntKind.u64.wrap (a*2 ^ min b.toNat 64)))) else none:=by simp[abin,IntKind.bits]
theorem abin_eql:abin P t .eql (.d (.int k a)) (.d (.int k b))=some (.d (.bool (a==b))):=by simp[abin]
theorem abinS_d {sl:List Slot} {op:BinOp} {x:V} {y:D}:abinS P sl t op x (.d y)=abin P t op x (.d y):=rfl
theorem abinS_agg {sl:List Slot} {op:BinOp} {x:V} {ys:List V}:abinS P sl t op x (.agg ys)=abin P t op x (.agg ys):=rfl
theorem abin_eqb {a c:Int} {b d:Bool} (h:pairB P t=true):abin P t .eql (.agg [.d (.int .i64 a),.d (.bool b)]) (.agg [.d (.int .i64 c),.d (.bool d)])=some (.d (.bool (a==c&&b==d))):=by simp[abin,h]
theorem abin_eqp {a b c d:Int} (h:pairT P t=true):abin P t .eql (.agg [.d (.int .i64 a),.d (.int .i64 b)]) (.agg [.d (.int .i64 c),.d (.int .i64 d)])=some (.d (.bool (a==c&&b==d))):=by simp[abin,h]
theorem abin_neq:abin P t .neq (.d (.int k a)) (.d (.int k b))=some (.d (.bool (a != b))):=by simp[abin]
theorem abin_lss:abin P t .lss (.d (.int k a)) (.d (.int k b))=some (.d (.bool (decide (a<b)))):=by simp[abin]
theorem abin_leq:abin P t .leq (.d (.int k a)) (.d (.int k b))=some (.d (.bool (decide (a≤b)))):=by simp[abin]
theorem abin_gtr:abin P t .gtr (.d (.int k a)) (.d (.int k b))=some (.d (.bool (decide (a > b)))):=by simp[abin]
theorem abin_geq:abin P t .geq (.d (.int k a)) (.d (.int k b))=some (.d (.bool (decide (a≥b)))):=by simp[abin]
theorem abin_eqlb (h:P.underlying t=some .bool):abin P t .eql (.d (.bool x)) (.d (.bool y))=some (.d (.bool (x==y))):=by simp[abin,h]
theorem abin_neqb (h:P.underlying t=some .bool):abin P t .neq (.d (.bool x)) (.d (.bool y))=some (.d (.bool (!(x==y)))):=by simp[abin,h]
end
section
variable {P:Program} {m:Mode} {ops:Array Oper} {K:St→Prop} {rest:List Oper} {σ:St} {d:Option Tmp} {t e:TypeId} {dr:Bool}
theorem app4_data {sl:List Slot} {x y:V} {K:V→List Slot→Prop} {ow:Bool} {es es2:List (List D)} {ks:List Nat} {o:Option Nat} (he:elemOf P t=some e) (hb:baseV sl e x=some (ow,es,ks)) (hz:(zeroV P e).isSome=true∧P.cellsOf e≠0∧P.bytesOf e≤128)
 (hs:srcV sl y=some (es2,o)) (ho:∀ s,o=some s→s∉ks) (hc:∀ c∈es2,c.length=P.cellsOf e) (hl:es.length+es2.length≤1099511627776) (hf:ow=true→flatP es2) (hK:K (.ref sl.length) (kill ks sl++[.arr e ow (es++es2)])):AApp4 P sl t x y K :=
 ⟨e,ow,es,ks,he,hb,hz.1,hz.2.1,hz.2.2,.inl ⟨es2,o,hs,ho,hc,hl,hf,hK⟩⟩
theorem app_data {x y:V} {ow:Bool} {es es2:List (List D)} {ks:List Nat} {o:Option Nat} {n:Nat} {b:Bool} (he:elemOf P t=some e) (hb:baseV σ.slots e x=some (ow,es,ks)) (hz:(zeroV P e).isSome=true∧P.cellsOf e≠0∧P.bytesOf e≤128)
 (hs:srcV σ.slots y=some (es2,o)) (ho:∀ s,o=some s→s∉ks) (hc:∀ c∈es2,c.length=P.cellsOf e) (hl:es.length+es2.length≤1099511627776) (hf:ow=true→flatP es2)
 (hK:AOps P ⟨n,false,b,dr⟩ ops K rest (St.put ⟨σ.tmps,kill ks σ.slots++[.arr e ow (es++es2)]⟩ d (.ref σ.slots.length))):appO P ⟨n,false,b,dr⟩ ops K rest σ d t x y :=
 .inl ⟨rfl,.inl (app4_data he hb hz hs ho hc hl hf hK)⟩
theorem app_lit {x:V} {es:List (List D)} {ks:List Nat} {n:Nat} {b:Bool} {s2 q:Nat} {cells:List V} {ds:List D} {ks2:List Nat} (he:elemOf P t=some e) (hb:baseV σ.slots e x=some (true,es,ks)) (hz:(zeroV P e).isSome=true∧P.cellsOf e≠0∧P.bytesOf e≤128)
 (hs:σ.slots[s2]? = some (.var e cells)) (ht:takeC σ.slots cells=some (ds,ks2)) (hd:∀ k∈ks2,k∉ks) (hc:cells.length=q*P.cellsOf e) (hl:es.length+q≤1099511627776)
 (hK:AOps P ⟨n,false,b,dr⟩ ops K rest (St.put ⟨σ.tmps,kill (s2::(ks++ks2)) σ.slots++[.arr e true (es++chunks (P.cellsOf e) q ds)]⟩ d (.ref σ.slots.length))):appO P ⟨n,false,b,dr⟩ ops K rest σ d t x (.lit s2 q) :=
 .inl ⟨rfl,.inl ⟨e,true,es,ks,he,hb,hz.1,hz.2.1,hz.2.2,.inr (.inr (.inl ⟨s2,q,cells,ds,ks2,rfl,hs,ht,hd,hc,rfl,hl,hK⟩))⟩⟩
theorem app_row {x:V} {es es2:List (List D)} {ks:List Nat} {n:Nat} {b:Bool} {s2:Nat} (he:elemOf P t=some e) (hb:baseV σ.slots e x=some (true,es,ks)) (hz:(zeroV P e).isSome=true∧P.cellsOf e≠0∧P.bytesOf e≤128)
 (hs:σ.slots[s2]? = some (.arr e true es2)) (hd:s2∉ks) (hl:es.length+es2.length≤1099511627776)
 (hK:AOps P ⟨n,false,b,dr⟩ ops K rest (St.put ⟨σ.tmps,kill (s2::ks) σ.slots++[.arr e true (es++es2)]⟩ d (.ref σ.slots.length))):appO P ⟨n,false,b,dr⟩ ops K rest σ d t x (.ref s2) :=
 .inl ⟨rfl,.inl ⟨e,true,es,ks,he,hb,hz.1,hz.2.1,hz.2.2,.inr (.inl ⟨s2,es2,rfl,hs,hd,rfl,hl,hK⟩)⟩⟩
theorem app_frozen {x y:V} {ow:Bool} {es es2:List (List D)} {ks ks2:List Nat} {n:Nat} {b:Bool} {t':TypeId} (hfz:freezeV P σ.slots y=some (.sl t' es2,ks2)) (he:elemOf P t=some e) (hb:baseV (kill ks2 σ.slots) e x=some (ow,es,ks)) (hz:(zeroV P e).isSome=true∧P.cellsOf e≠0∧P.bytesOf e≤128)
 (hc:∀ c∈es2,c.length=P.cellsOf e) (hl:es.length+es2.length≤1099511627776)
 (hK:AOps P ⟨n,false,b,dr⟩ ops K rest (St.put ⟨σ.tmps,kill ks (kill ks2 σ.slots)++[.arr e false (es++es2)]⟩ d (.ref (kill ks2 σ.slots).length))):appO P ⟨n,false,b,dr⟩ ops K rest σ d t x y :=
 .inl ⟨rfl,.inr ⟨_,ks2,hfz,e,ow,es,ks,he,hb,hz.1,hz.2.1,hz.2.2,.inr (.inr (.inr ⟨es2,none,rfl,by simp,hc,hl,hK⟩))⟩⟩
theorem app_view {x y:V} {ow:Bool} {es es2:List (List D)} {ks:List Nat} {o:Option Nat} {n:Nat} {b:Bool} (he:elemOf P t=some e) (hb:baseV σ.slots e x=some (ow,es,ks)) (hz:(zeroV P e).isSome=true∧P.cellsOf e≠0∧P.bytesOf e≤128)
 (hs:srcV σ.slots y=some (es2,o)) (ho:∀ s,o=some s→s∉ks) (hc:∀ c∈es2,c.length=P.cellsOf e) (hl:es.length+es2.length≤1099511627776)
 (hK:AOps P ⟨n,false,b,dr⟩ ops K rest (St.put ⟨σ.tmps,kill ks σ.slots++[.arr e false (es++es2)]⟩ d (.ref σ.slots.length))):appO P ⟨n,false,b,dr⟩ ops K rest σ d t x y :=
 .inl ⟨rfl,.inl ⟨e,ow,es,ks,he,hb,hz.1,hz.2.1,hz.2.2,.inr (.inr (.inr ⟨es2,o,hs,ho,hc,hl,hK⟩))⟩⟩
theorem app_que {s s2 m:Nat} {es es2:List (List D)} {n:Nat} (he:elemOf P t=some e) (hs:σ.slots[s]? = some (.blk (.que e m es))) (hm:P.cellsOf e=m) (hs2:σ.slots[s2]? = some (.arr e true es2)) (hz:(zeroV P e).isSome=true∧P.cellsOf e≠0∧P.bytesOf e≤128)
 (hf:flatP es2) (hl:es.length+es2.length≤1099511627776)
 (hK:AOps P ⟨n,false,true,dr⟩ ops K rest (St.put ⟨σ.tmps,kill [s2,s] σ.slots++[.blk (.que e m (es++es2))]⟩ d (.ref σ.slots.length))):appO P ⟨n,false,true,dr⟩ ops K rest σ d t (.ref s) (.ref s2) :=
 .inr ⟨rfl,rfl,.inl ⟨e,s,m,es,s2,es2,he,rfl,hs,rfl,hs2,hz.1,hz.2.1,hz.2.2,hm.symm,hf,hl,hK⟩⟩
theorem app_mov {x:V} {es es2:List (List D)} {ks:List Nat} {n:Nat} {s2:Nat} (he:elemOf P t=some e) (hb:baseV σ.slots e x=some (true,es,ks)) (hz:(zeroV P e).isSome=true∧P.cellsOf e≠0∧P.bytesOf e≤128)
 (hs:σ.slots[s2]? = some (.arr e true es2)) (hd:s2∉ks) (hl:es.length+es2.length≤1099511627776)
 (hK:AOps P ⟨n,false,true,dr⟩ ops K rest (St.put ⟨σ.tmps,(kill ks σ.slots).set s2 (.arr e false es2)++[.arr e true (es++es2)]⟩ d (.ref σ.slots.length))):appO P ⟨n,false,true,dr⟩ ops K rest σ d t x (.ref s2) :=
 .inr ⟨rfl,rfl,.inr ⟨e,es,ks,s2,es2,he,hb,rfl,hs,hd,hz.1,hz.2.1,hz.2.2,hl,hK⟩⟩
end
end Go.Proofs.Ytakohcpfjkcfdaa
/-
  From a law's arguments, as the row reads them, to data; and from a law's contract to the law. Plain lemmas.
  Conditions: those typed in each theorem.
-/
namespace Go.Proofs.Ytakohcpfjkcfdaa
open Go.RowKit Go.ChangeShapes Go.WideShapes Go.ChangeAt Go.Deep Go.Joins
set_option linter.unusedVariables false
set_option linter.unusedSimpArgs false
inductive OkD:D→Prop
 | int (k:IntKind) (x:Int) (h:(Lit.int k x).wf=true):OkD (.int k x)
 | bool (b:Bool):OkD (.bool b)
 | sl (t:TypeId) (es:List (List D)) (h:∀ e∈es,∀ d∈e,OkD d):OkD (.sl t es)
theorem OkD.i64 {x:Int} (h:OkD (.int .i64 x)):-9223372036854775808≤x∧x≤9223372036854775807:=by
 cases h with
 | int _ _ h =>
   have h2:(decide (IntKind.i64.min≤x)&&decide (x≤IntKind.i64.max))=true:=h
   have a:IntKind.i64.min=-9223372036854775808:=by decide
   have b:IntKind.i64.max=9223372036854775807:=by decide
   rw[a,b] at h2
   simpa using h2
def OpD {α:Type} (P:Program) (en:α→D) (t:TypeId):Prop :=
 ∀ {H:Type} {enc:TypeId×Value→H} {W:World} {B fuel:Nat} {cs:List Value} {x:DataW H×List MemPlace},
   DataW.trod enc P W 0 (fun _=>true) true fuel t cs=some x→(∀ p∈x.2,p.block<B)→∃ (d:α) (v:Value),cs=[v]∧Rd W (·<B) (en d) v∧OkD (en d)
def OpE {α:Type} (P:Program) (en:α→List D) (t:TypeId):Prop :=
 ∀ {H:Type} {enc:TypeId×Value→H} {W:World} {B fuel:Nat} {cs:List Value} {x:DataW H×List MemPlace},
   DataW.trod enc P W 0 (fun _=>true) true fuel t cs=some x→(∀ p∈x.2,p.block<B)→∃ d:α,Rds W (·<B) (en d) cs []∧∀ q∈en d,OkD q
def eInt (x:Int):D:=.int .i64 x
def eBool (x:Bool):D:=.bool x
def eSl {α:Type} (e:TypeId) (en:α→List D) (xs:List α):D:=.sl e (xs.map en)
def e1 {α:Type} (en:α→D) (x:α):List D:=[en x]
def e2 {α β:Type} (a:α→D) (b:β→D) (x:α×β):List D:=[a x.1,b x.2]
def e3 {α β γ:Type} (a:α→D) (b:β→D) (c:γ→D) (x:α×β×γ):List D:=[a x.1,b x.2.1,c x.2.2]
def e4 {α β γ δ:Type} (a:α→D) (b:β→D) (c:γ→D) (d:δ→D) (x:α×β×γ×δ):List D:=[a x.1,b x.2.1,c x.2.2.1,d x.2.2.2]
section
variable {P:Program} {t:TypeId}
theorem ope_1 {α:Type} {en:α→D} (h:OpD P en t):OpE P (e1 en) t:=fun h1 h2=>by
 obtain⟨d,v,rfl,hr,ho⟩:=h h1 h2
 refine⟨d,⟨rfl,rfl,fun i x hx=>?_⟩,by simpa [e1] using ho⟩
 match i with
 | 0=>simp[e1] at hx;subst hx;exact⟨v,rfl,hr⟩
 | i+1=>simp[e1] at hx
theorem spot_none' {w:World} {a:Addr} {u:Value} (h:w.cell? a=some u):a.spot=none:=by
 unfold World.cell? at h
 split at h
 · split at h
   · cases h
   · rename_i hs
     cases hp:a.spot with
     | none=>rfl
     | some q=>rw[hp] at hs;simp at hs
 · cases h
theorem opd_sl {α:Type} {en:α→List D} {e:TypeId} (ht:P.underlying t=some (.slice e)) (hpos:0<P.cellsOf e) (hE:∀ x,(en x).length=P.cellsOf e) (hT:OpE P en e):OpD P (eSl e en) t:=by
 intro H enc W B fuel cs x h hlt
 rcases open_slice ht h with ⟨rfl,rfl⟩|⟨a,len,cap,m,n,D,Pl,rfl,hb,hl,hm,hmm,hx,hi⟩
 · exact⟨[],_,rfl,.nil _ _ _,.sl _ _ (by simp)⟩
 · have hm':m=cap:=hmm
   subst hm'
   have hlen63:len≤9223372036854775807:=by simp only[maxLen] at hm;omega
   have hpl:∀ i,i<m→∀ p∈Pl i,p.block<B:=by
    intro i him p hp
    refine hlt p ?_
    rw[hx]
    simp only[List.mem_append,List.mem_flatMap,List.mem_range]
    exact .inr ⟨i,him,hp⟩
   have helem:∀ i,i<len→∃ y:α×List Value,W.cells? 0 (a.add (i*P.cellsOf e)) (P.cellsOf e)=some y.2∧Rds W (·<B) (en y.1) y.2 []∧∀ q∈en y.1,OkD q:=by
    intro i hil
    obtain⟨cs',hc,ht'⟩:=hi i (by omega)
    obtain⟨d,hd⟩:=hT ht' (fun p hp=>hpl i (by omega) p hp)
    exact⟨(d,cs'),hc,hd⟩
   by_cases h0:len=0
   · subst h0
     exact⟨[],_,rfl,.nil _ _ _,.sl _ _ (by simp)⟩
   have hn':0<len:=by omega
   obtain⟨y0,hy0⟩:=helem 0 hn'
   have hall:∀ i,∃ y:α×List Value,i<len→W.cells? 0 (a.add (i*P.cellsOf e)) (P.cellsOf e)=some y.2∧Rds W (·<B) (en y.1) y.2 []∧∀ q∈en y.1,OkD q:=by
    intro i
    by_cases hil:i<len
    · obtain⟨y,hy⟩:=helem i hil
      exact⟨y,fun _=>hy⟩
    · exact⟨y0,fun h=>absurd h hil⟩
   obtain⟨f,hf⟩:=Classical.skolem.1 hall
   have hblk:a.block<B:=by
    have:MemPlace.cell a.block a.off∈x.2:=by
     rw[hx]
     simp only[List.mem_append]
     left
     rw[MemPlace.row]
     simp only[List.mem_map,List.mem_range]
     exact⟨0,Nat.mul_pos (by omega) hpos,by simp⟩
    exact hlt _ this
   have hspot:a.spot=none:=by
    obtain⟨_,hcl,hat⟩:=World.cells?_some hy0.1
    have h0:=hat 0 hpos
    have hcl':0<y0.2.length:=by rw[hcl];exact hpos
    rw[List.getElem?_eq_getElem hcl'] at h0
    have:=spot_none' h0
    simpa [Addr.add] using this
   obtain⟨b,o,sp⟩:=a
   simp only at hspot
   subst hspot
   have hr:=Rd.sl (w:=W) (G:=(·<B)) e ((List.range len).map fun i=>en (f i).1) b o m (P.cellsOf e) (fun i j=>((f i).2[j]?).getD (.bool false)) (by simpa using hlen63) (by simpa using hl) hblk
    (fun x hx=>by simp only[List.mem_map,List.mem_range] at hx;obtain⟨i,_,rfl⟩:=hx;exact hE _)
    (fun i y j d hy hd=>by
      rw[List.getElem?_map,Option.map_eq_some_iff] at hy
      obtain⟨i',hi',rfl⟩:=hy
      have hil:i<len:=by
       have:=(List.getElem?_eq_some_iff.1 hi').1
       simpa using this
      rw[List.getElem?_range hil] at hi'
      obtain rfl:=Option.some.inj hi'
      obtain⟨h1,h2,h3⟩:=hf i hil
      obtain⟨_,hcl,hat⟩:=World.cells?_some h1
      have hj:j<P.cellsOf e:=by rw[←hE (f i).1];exact (List.getElem?_eq_some_iff.1 hd).1
      have:=hat j hj
      have hj2:j<(f i).2.length:=by rw[hcl];exact hj
      rw[List.getElem?_eq_getElem hj2] at this ⊢
      have ee:((⟨b,o,none⟩:Addr).add (i*P.cellsOf e)).add j=⟨b,o+i*P.cellsOf e+j,none⟩:=by
       rw[Go.Deep.add_add]
       unfold Addr.add
       split
       · rename_i h0
         rw[Nat.add_assoc,h0,Nat.add_zero]
       · rw[Nat.add_assoc]
      rw[ee] at this
      simpa using this)
    (fun i y j d hy hd=>by
      rw[List.getElem?_map,Option.map_eq_some_iff] at hy
      obtain⟨i',hi',rfl⟩:=hy
      have hil:i<len:=by
       have:=(List.getElem?_eq_some_iff.1 hi').1
       simpa using this
      rw[List.getElem?_range hil] at hi'
      obtain rfl:=Option.some.inj hi'
      obtain⟨h1,h2,h3⟩:=hf i hil
      obtain⟨v,hv,hr⟩:=h2.2.2 j d hd
      rw[hv]
      exact hr)
   refine⟨(List.range len).map fun i=>(f i).1,_,rfl,?_⟩
   have el:((List.range len).map fun i=>en (f i).1).length=len:=by simp
   rw[el] at hr
   have em:eSl e en ((List.range len).map fun i=>(f i).1)=.sl e ((List.range len).map fun i=>en (f i).1):=by simp[eSl,Function.comp_def]
   rw[em]
   refine⟨hr,.sl _ _ fun e he q hq=>?_⟩
   simp only[List.mem_map,List.mem_range] at he
   obtain⟨i,hi,rfl⟩:=he
   exact (hf i hi).2.2 q hq
section
variable {α:Type} {H:Type} {enc:TypeId×Value→H} {W:World} {base:Nat} {v:Value} {d:DataW H} {p:List MemPlace}
theorem openR_sl {en:α→D} {e:TypeId} (ht:P.underlying t=some (.slice e)) (hO:OpD P en t) (hv:Value.okWide P W .any base t v) (h:DataW.Trod enc P W 0 (fun _=>true) true t v d p) (hlt:∀ x∈p,x.block<W.heap.size):∃ x:α,Rd W (·<W.heap.size) (en x) v∧OkD (en x):=by
 obtain⟨a0,len,cap,rfl⟩:=okWide_slice ht hv
 obtain⟨fuel,hf⟩:=h
 obtain⟨x,v,e1,h2⟩:=hO hf hlt
 have e1':[Value.slice a0 len cap]=[v]:=e1
 cases e1'
 exact⟨x,h2⟩
theorem openD_sl {en:α→D} {e:TypeId} (ht:P.underlying t=some (.slice e)) (hO:OpD P en t) (hv:Value.okWide P W .any base t v) (h:DataW.Trod enc P W 0 (fun _=>true) true t v d p) (hlt:∀ x∈p,x.block<W.heap.size):∃ x:α,Rd W (·<W.heap.size) (en x) v:=by
 obtain⟨x,h,_⟩:=openR_sl ht hO hv h hlt
 exact⟨x,h⟩
end
theorem law_con {f:FuncId} {xs:List X} (h:ConC P f xs (.d (.bool true))) {w:World} {vs:Array Value} (hl:vs.size=xs.length) (hr:∀ (i:Nat) (x:X) (v:Value),xs[i]? = some x→vs[i]? = some v→XRd w (·<w.heap.size) x v) :
 Calls P f vs w fun e w'=>e=.returned (.bool true)∧Below w.heap.size w w':=by
 refine (h.2 w vs.toList (by simpa using hl) (fun i x v hx hv=>hr i x v hx (by simpa using hv))).mono ?_
 rintro e w' ⟨v,F,rfl,hres,-,-,hb⟩
 refine⟨?_,hb⟩
 cases hres with
 | one hx=>cases hx with
   | d ho =>
     obtain⟨v',hv',hr'⟩:=ho.rd (G:=fun _=>True) (fun _ _=>trivial) 0 _ rfl
     simp at hv'
     subst hv'
     cases hr'
     rfl
end
end Go.Proofs.Ytakohcpfjkcfdaa
