/-
  Facts on the program's types, for abstract walks.
  Conditions: none.
-/
import Derived.Test.YtdliejnmpdodhaaVl
namespace Go.Proofs.Ytdliejnmpdodhaa
open Go.RowKit Go.ChangeShapes Go.WideShapes
@[simp] theorem vt_un_2 : (Try.prog.underlying 2).isSome = true := by kernel_rfl
@[simp] theorem vt_ag_2 : aggT Try.prog 2 = false := by kernel_rfl
@[simp] theorem vt_ce_2 : Try.prog.cellsOf 2 = 1 := by kernel_rfl
@[simp] theorem vt_by_2 : Try.prog.bytesOf 2 = 8 := by kernel_rfl
@[simp] theorem vt_ze_2 : zeroV Try.prog 2 = some [.d (.int .i64 0)] := by kernel_rfl
@[simp] theorem vt_ud_2 : Try.prog.underlying 2 = some (.int .i64) := by kernel_rfl
@[simp] theorem vt_un_3 : (Try.prog.underlying 3).isSome = true := by kernel_rfl
@[simp] theorem vt_ag_3 : aggT Try.prog 3 = false := by kernel_rfl
@[simp] theorem vt_ce_3 : Try.prog.cellsOf 3 = 1 := by kernel_rfl
@[simp] theorem vt_by_3 : Try.prog.bytesOf 3 = 8 := by kernel_rfl
@[simp] theorem vt_ze_3 : zeroV Try.prog 3 = some [.d (.int .i64 0)] := by kernel_rfl
@[simp] theorem vt_ud_3 : Try.prog.underlying 3 = some (.int .i64) := by kernel_rfl
@[simp] theorem vt_un_4 : (Try.prog.underlying 4).isSome = true := by kernel_rfl
@[simp] theorem vt_ag_4 : aggT Try.prog 4 = false := by kernel_rfl
@[simp] theorem vt_ce_4 : Try.prog.cellsOf 4 = 1 := by kernel_rfl
@[simp] theorem vt_by_4 : Try.prog.bytesOf 4 = 1 := by kernel_rfl
@[simp] theorem vt_ze_4 : zeroV Try.prog 4 = some [.d (.bool false)] := by kernel_rfl
@[simp] theorem vt_ud_4 : Try.prog.underlying 4 = some .bool := by kernel_rfl
@[simp] theorem vt_un_5 : (Try.prog.underlying 5).isSome = true := by kernel_rfl
@[simp] theorem vt_ag_5 : aggT Try.prog 5 = false := by kernel_rfl
@[simp] theorem vt_ce_5 : Try.prog.cellsOf 5 = 1 := by kernel_rfl
@[simp] theorem vt_by_5 : Try.prog.bytesOf 5 = 1 := by kernel_rfl
@[simp] theorem vt_ze_5 : zeroV Try.prog 5 = some [.d (.int .u8 0)] := by kernel_rfl
@[simp] theorem vt_ud_5 : Try.prog.underlying 5 = some (.int .u8) := by kernel_rfl
@[simp] theorem vt_un_6 : (Try.prog.underlying 6).isSome = true := by kernel_rfl
@[simp] theorem vt_ag_6 : aggT Try.prog 6 = false := by kernel_rfl
@[simp] theorem vt_ce_6 : Try.prog.cellsOf 6 = 1 := by kernel_rfl
@[simp] theorem vt_by_6 : Try.prog.bytesOf 6 = 1 := by kernel_rfl
@[simp] theorem vt_ze_6 : zeroV Try.prog 6 = some [.d (.int .u8 0)] := by kernel_rfl
@[simp] theorem vt_ud_6 : Try.prog.underlying 6 = some (.int .u8) := by kernel_rfl
@[simp] theorem vt_un_7 : (Try.prog.underlying 7).isSome = true := by kernel_rfl
@[simp] theorem vt_ag_7 : aggT Try.prog 7 = true := by kernel_rfl
@[simp] theorem vt_ce_7 : Try.prog.cellsOf 7 = 4 := by kernel_rfl
@[simp] theorem vt_by_7 : Try.prog.bytesOf 7 = 24 := by kernel_rfl
@[simp] theorem vt_fo0_7 : fieldOf Try.prog 7 0 = some (0, 2) := by kernel_rfl
@[simp] theorem vt_fo1_7 : fieldOf Try.prog 7 1 = some (1, 3) := by kernel_rfl
@[simp] theorem vt_fo2_7 : fieldOf Try.prog 7 2 = some (2, 4) := by kernel_rfl
@[simp] theorem vt_fo3_7 : fieldOf Try.prog 7 3 = some (3, 6) := by kernel_rfl
@[simp] theorem vt_ze_7 : zeroV Try.prog 7 = some [.d (.int .i64 0), .d (.int .i64 0), .d (.bool false), .d (.int .u8 0)] := by kernel_rfl
@[simp] theorem vt_un_8 : (Try.prog.underlying 8).isSome = true := by kernel_rfl
@[simp] theorem vt_ag_8 : aggT Try.prog 8 = true := by kernel_rfl
@[simp] theorem vt_ce_8 : Try.prog.cellsOf 8 = 4 := by kernel_rfl
@[simp] theorem vt_by_8 : Try.prog.bytesOf 8 = 24 := by kernel_rfl
@[simp] theorem vt_fo0_8 : fieldOf Try.prog 8 0 = some (0, 2) := by kernel_rfl
@[simp] theorem vt_fo1_8 : fieldOf Try.prog 8 1 = some (1, 3) := by kernel_rfl
@[simp] theorem vt_fo2_8 : fieldOf Try.prog 8 2 = some (2, 4) := by kernel_rfl
@[simp] theorem vt_fo3_8 : fieldOf Try.prog 8 3 = some (3, 6) := by kernel_rfl
@[simp] theorem vt_ze_8 : zeroV Try.prog 8 = some [.d (.int .i64 0), .d (.int .i64 0), .d (.bool false), .d (.int .u8 0)] := by kernel_rfl
@[simp] theorem vt_un_12 : (Try.prog.underlying 12).isSome = true := by kernel_rfl
@[simp] theorem vt_ag_12 : aggT Try.prog 12 = false := by kernel_rfl
@[simp] theorem vt_ce_12 : Try.prog.cellsOf 12 = 1 := by kernel_rfl
@[simp] theorem vt_by_12 : Try.prog.bytesOf 12 = 8 := by kernel_rfl
@[simp] theorem vt_ze_12 : zeroV Try.prog 12 = some [.d (.int .u64 0)] := by kernel_rfl
@[simp] theorem vt_ud_12 : Try.prog.underlying 12 = some (.int .u64) := by kernel_rfl
@[simp] theorem vt_un_21 : (Try.prog.underlying 21).isSome = true := by kernel_rfl
@[simp] theorem vt_ag_21 : aggT Try.prog 21 = false := by kernel_rfl
@[simp] theorem vt_ce_21 : Try.prog.cellsOf 21 = 1 := by kernel_rfl
@[simp] theorem vt_by_21 : Try.prog.bytesOf 21 = 4 := by kernel_rfl
@[simp] theorem vt_ze_21 : zeroV Try.prog 21 = some [.d (.int .i32 0)] := by kernel_rfl
@[simp] theorem vt_ud_21 : Try.prog.underlying 21 = some (.int .i32) := by kernel_rfl
@[simp] theorem vt_un_22 : (Try.prog.underlying 22).isSome = true := by kernel_rfl
@[simp] theorem vt_ag_22 : aggT Try.prog 22 = false := by kernel_rfl
@[simp] theorem vt_ce_22 : Try.prog.cellsOf 22 = 1 := by kernel_rfl
@[simp] theorem vt_by_22 : Try.prog.bytesOf 22 = 24 := by kernel_rfl
@[simp] theorem vt_el_22 : elemOf Try.prog 22 = some 105 := by kernel_rfl
@[simp] theorem vt_ze_22 : zeroV Try.prog 22 = some [.nil 105] := by kernel_rfl
@[simp] theorem vt_un_23 : (Try.prog.underlying 23).isSome = true := by kernel_rfl
@[simp] theorem vt_ag_23 : aggT Try.prog 23 = false := by kernel_rfl
@[simp] theorem vt_ce_23 : Try.prog.cellsOf 23 = 1 := by kernel_rfl
@[simp] theorem vt_by_23 : Try.prog.bytesOf 23 = 24 := by kernel_rfl
@[simp] theorem vt_el_23 : elemOf Try.prog 23 = some 112 := by kernel_rfl
@[simp] theorem vt_ze_23 : zeroV Try.prog 23 = some [.nil 112] := by kernel_rfl
@[simp] theorem vt_un_24 : (Try.prog.underlying 24).isSome = true := by kernel_rfl
@[simp] theorem vt_ag_24 : aggT Try.prog 24 = false := by kernel_rfl
@[simp] theorem vt_ce_24 : Try.prog.cellsOf 24 = 1 := by kernel_rfl
@[simp] theorem vt_by_24 : Try.prog.bytesOf 24 = 24 := by kernel_rfl
@[simp] theorem vt_el_24 : elemOf Try.prog 24 = some 3 := by kernel_rfl
@[simp] theorem vt_ze_24 : zeroV Try.prog 24 = some [.nil 3] := by kernel_rfl
@[simp] theorem vt_un_25 : (Try.prog.underlying 25).isSome = true := by kernel_rfl
@[simp] theorem vt_ag_25 : aggT Try.prog 25 = true := by kernel_rfl
@[simp] theorem vt_ce_25 : Try.prog.cellsOf 25 = 4 := by kernel_rfl
@[simp] theorem vt_by_25 : Try.prog.bytesOf 25 = 80 := by kernel_rfl
@[simp] theorem vt_fo0_25 : fieldOf Try.prog 25 0 = some (0, 3) := by kernel_rfl
@[simp] theorem vt_fo1_25 : fieldOf Try.prog 25 1 = some (1, 22) := by kernel_rfl
@[simp] theorem vt_fo2_25 : fieldOf Try.prog 25 2 = some (2, 23) := by kernel_rfl
@[simp] theorem vt_fo3_25 : fieldOf Try.prog 25 3 = some (3, 24) := by kernel_rfl
@[simp] theorem vt_ze_25 : zeroV Try.prog 25 = some [.d (.int .i64 0), .nil 105, .nil 112, .nil 3] := by kernel_rfl
@[simp] theorem vt_un_26 : (Try.prog.underlying 26).isSome = true := by kernel_rfl
@[simp] theorem vt_ag_26 : aggT Try.prog 26 = true := by kernel_rfl
@[simp] theorem vt_ce_26 : Try.prog.cellsOf 26 = 4 := by kernel_rfl
@[simp] theorem vt_by_26 : Try.prog.bytesOf 26 = 80 := by kernel_rfl
@[simp] theorem vt_fo0_26 : fieldOf Try.prog 26 0 = some (0, 3) := by kernel_rfl
@[simp] theorem vt_fo1_26 : fieldOf Try.prog 26 1 = some (1, 22) := by kernel_rfl
@[simp] theorem vt_fo2_26 : fieldOf Try.prog 26 2 = some (2, 23) := by kernel_rfl
@[simp] theorem vt_fo3_26 : fieldOf Try.prog 26 3 = some (3, 24) := by kernel_rfl
@[simp] theorem vt_ze_26 : zeroV Try.prog 26 = some [.d (.int .i64 0), .nil 105, .nil 112, .nil 3] := by kernel_rfl
@[simp] theorem vt_un_27 : (Try.prog.underlying 27).isSome = true := by kernel_rfl
@[simp] theorem vt_ag_27 : aggT Try.prog 27 = false := by kernel_rfl
@[simp] theorem vt_ce_27 : Try.prog.cellsOf 27 = 1 := by kernel_rfl
@[simp] theorem vt_by_27 : Try.prog.bytesOf 27 = 24 := by kernel_rfl
@[simp] theorem vt_el_27 : elemOf Try.prog 27 = some 74 := by kernel_rfl
@[simp] theorem vt_ze_27 : zeroV Try.prog 27 = some [.nil 74] := by kernel_rfl
@[simp] theorem vt_un_31 : (Try.prog.underlying 31).isSome = true := by kernel_rfl
@[simp] theorem vt_ag_31 : aggT Try.prog 31 = false := by kernel_rfl
@[simp] theorem vt_ce_31 : Try.prog.cellsOf 31 = 1 := by kernel_rfl
@[simp] theorem vt_by_31 : Try.prog.bytesOf 31 = 24 := by kernel_rfl
@[simp] theorem vt_el_31 : elemOf Try.prog 31 = some 53 := by kernel_rfl
@[simp] theorem vt_ze_31 : zeroV Try.prog 31 = some [.nil 53] := by kernel_rfl
@[simp] theorem vt_un_32 : (Try.prog.underlying 32).isSome = true := by kernel_rfl
@[simp] theorem vt_ag_32 : aggT Try.prog 32 = false := by kernel_rfl
@[simp] theorem vt_ce_32 : Try.prog.cellsOf 32 = 1 := by kernel_rfl
@[simp] theorem vt_by_32 : Try.prog.bytesOf 32 = 24 := by kernel_rfl
@[simp] theorem vt_el_32 : elemOf Try.prog 32 = some 94 := by kernel_rfl
@[simp] theorem vt_ze_32 : zeroV Try.prog 32 = some [.nil 94] := by kernel_rfl
@[simp] theorem vt_un_33 : (Try.prog.underlying 33).isSome = true := by kernel_rfl
@[simp] theorem vt_ag_33 : aggT Try.prog 33 = true := by kernel_rfl
@[simp] theorem vt_ce_33 : Try.prog.cellsOf 33 = 4 := by kernel_rfl
@[simp] theorem vt_by_33 : Try.prog.bytesOf 33 = 80 := by kernel_rfl
@[simp] theorem vt_fo0_33 : fieldOf Try.prog 33 0 = some (0, 3) := by kernel_rfl
@[simp] theorem vt_fo1_33 : fieldOf Try.prog 33 1 = some (1, 31) := by kernel_rfl
@[simp] theorem vt_fo2_33 : fieldOf Try.prog 33 2 = some (2, 32) := by kernel_rfl
@[simp] theorem vt_fo3_33 : fieldOf Try.prog 33 3 = some (3, 24) := by kernel_rfl
@[simp] theorem vt_ze_33 : zeroV Try.prog 33 = some [.d (.int .i64 0), .nil 53, .nil 94, .nil 3] := by kernel_rfl
@[simp] theorem vt_un_34 : (Try.prog.underlying 34).isSome = true := by kernel_rfl
@[simp] theorem vt_ag_34 : aggT Try.prog 34 = true := by kernel_rfl
@[simp] theorem vt_ce_34 : Try.prog.cellsOf 34 = 4 := by kernel_rfl
@[simp] theorem vt_by_34 : Try.prog.bytesOf 34 = 80 := by kernel_rfl
@[simp] theorem vt_fo0_34 : fieldOf Try.prog 34 0 = some (0, 3) := by kernel_rfl
@[simp] theorem vt_fo1_34 : fieldOf Try.prog 34 1 = some (1, 31) := by kernel_rfl
@[simp] theorem vt_fo2_34 : fieldOf Try.prog 34 2 = some (2, 32) := by kernel_rfl
@[simp] theorem vt_fo3_34 : fieldOf Try.prog 34 3 = some (3, 24) := by kernel_rfl
@[simp] theorem vt_ze_34 : zeroV Try.prog 34 = some [.d (.int .i64 0), .nil 53, .nil 94, .nil 3] := by kernel_rfl
@[simp] theorem vt_un_36 : (Try.prog.underlying 36).isSome = true := by kernel_rfl
@[simp] theorem vt_ag_36 : aggT Try.prog 36 = false := by kernel_rfl
@[simp] theorem vt_ce_36 : Try.prog.cellsOf 36 = 1 := by kernel_rfl
@[simp] theorem vt_by_36 : Try.prog.bytesOf 36 = 24 := by kernel_rfl
@[simp] theorem vt_el_36 : elemOf Try.prog 36 = some 66 := by kernel_rfl
@[simp] theorem vt_ze_36 : zeroV Try.prog 36 = some [.nil 66] := by kernel_rfl
@[simp] theorem vt_un_49 : (Try.prog.underlying 49).isSome = true := by kernel_rfl
@[simp] theorem vt_ag_49 : aggT Try.prog 49 = false := by kernel_rfl
@[simp] theorem vt_ce_49 : Try.prog.cellsOf 49 = 1 := by kernel_rfl
@[simp] theorem vt_by_49 : Try.prog.bytesOf 49 = 24 := by kernel_rfl
@[simp] theorem vt_el_49 : elemOf Try.prog 49 = some 5 := by kernel_rfl
@[simp] theorem vt_ze_49 : zeroV Try.prog 49 = some [.nil 5] := by kernel_rfl
@[simp] theorem vt_un_52 : (Try.prog.underlying 52).isSome = true := by kernel_rfl
@[simp] theorem vt_ag_52 : aggT Try.prog 52 = true := by kernel_rfl
@[simp] theorem vt_ce_52 : Try.prog.cellsOf 52 = 3 := by kernel_rfl
@[simp] theorem vt_by_52 : Try.prog.bytesOf 52 = 40 := by kernel_rfl
@[simp] theorem vt_fo0_52 : fieldOf Try.prog 52 0 = some (0, 3) := by kernel_rfl
@[simp] theorem vt_fo1_52 : fieldOf Try.prog 52 1 = some (1, 3) := by kernel_rfl
@[simp] theorem vt_fo2_52 : fieldOf Try.prog 52 2 = some (2, 24) := by kernel_rfl
@[simp] theorem vt_ze_52 : zeroV Try.prog 52 = some [.d (.int .i64 0), .d (.int .i64 0), .nil 3] := by kernel_rfl
@[simp] theorem vt_un_53 : (Try.prog.underlying 53).isSome = true := by kernel_rfl
@[simp] theorem vt_ag_53 : aggT Try.prog 53 = true := by kernel_rfl
@[simp] theorem vt_ce_53 : Try.prog.cellsOf 53 = 3 := by kernel_rfl
@[simp] theorem vt_by_53 : Try.prog.bytesOf 53 = 40 := by kernel_rfl
@[simp] theorem vt_fo0_53 : fieldOf Try.prog 53 0 = some (0, 3) := by kernel_rfl
@[simp] theorem vt_fo1_53 : fieldOf Try.prog 53 1 = some (1, 3) := by kernel_rfl
@[simp] theorem vt_fo2_53 : fieldOf Try.prog 53 2 = some (2, 24) := by kernel_rfl
@[simp] theorem vt_ze_53 : zeroV Try.prog 53 = some [.d (.int .i64 0), .d (.int .i64 0), .nil 3] := by kernel_rfl
@[simp] theorem vt_un_65 : (Try.prog.underlying 65).isSome = true := by kernel_rfl
@[simp] theorem vt_ag_65 : aggT Try.prog 65 = true := by kernel_rfl
@[simp] theorem vt_ce_65 : Try.prog.cellsOf 65 = 2 := by kernel_rfl
@[simp] theorem vt_by_65 : Try.prog.bytesOf 65 = 32 := by kernel_rfl
@[simp] theorem vt_fo0_65 : fieldOf Try.prog 65 0 = some (0, 24) := by kernel_rfl
@[simp] theorem vt_fo1_65 : fieldOf Try.prog 65 1 = some (1, 3) := by kernel_rfl
@[simp] theorem vt_ze_65 : zeroV Try.prog 65 = some [.nil 3, .d (.int .i64 0)] := by kernel_rfl
@[simp] theorem vt_un_66 : (Try.prog.underlying 66).isSome = true := by kernel_rfl
@[simp] theorem vt_ag_66 : aggT Try.prog 66 = true := by kernel_rfl
@[simp] theorem vt_ce_66 : Try.prog.cellsOf 66 = 2 := by kernel_rfl
@[simp] theorem vt_by_66 : Try.prog.bytesOf 66 = 32 := by kernel_rfl
@[simp] theorem vt_fo0_66 : fieldOf Try.prog 66 0 = some (0, 24) := by kernel_rfl
@[simp] theorem vt_fo1_66 : fieldOf Try.prog 66 1 = some (1, 3) := by kernel_rfl
@[simp] theorem vt_ze_66 : zeroV Try.prog 66 = some [.nil 3, .d (.int .i64 0)] := by kernel_rfl
@[simp] theorem vt_un_74 : (Try.prog.underlying 74).isSome = true := by kernel_rfl
@[simp] theorem vt_ag_74 : aggT Try.prog 74 = true := by kernel_rfl
@[simp] theorem vt_ce_74 : Try.prog.cellsOf 74 = 2 := by kernel_rfl
@[simp] theorem vt_by_74 : Try.prog.bytesOf 74 = 32 := by kernel_rfl
@[simp] theorem vt_fo0_74 : fieldOf Try.prog 74 0 = some (0, 24) := by kernel_rfl
@[simp] theorem vt_fo1_74 : fieldOf Try.prog 74 1 = some (1, 3) := by kernel_rfl
@[simp] theorem vt_ze_74 : zeroV Try.prog 74 = some [.nil 3, .d (.int .i64 0)] := by kernel_rfl
@[simp] theorem vt_un_77 : (Try.prog.underlying 77).isSome = true := by kernel_rfl
@[simp] theorem vt_ag_77 : aggT Try.prog 77 = true := by kernel_rfl
@[simp] theorem vt_ce_77 : Try.prog.cellsOf 77 = 2 := by kernel_rfl
@[simp] theorem vt_by_77 : Try.prog.bytesOf 77 = 16 := by kernel_rfl
@[simp] theorem vt_fo0_77 : fieldOf Try.prog 77 0 = some (0, 3) := by kernel_rfl
@[simp] theorem vt_fo1_77 : fieldOf Try.prog 77 1 = some (1, 3) := by kernel_rfl
@[simp] theorem vt_ze_77 : zeroV Try.prog 77 = some [.d (.int .i64 0), .d (.int .i64 0)] := by kernel_rfl
@[simp] theorem vt_un_78 : (Try.prog.underlying 78).isSome = true := by kernel_rfl
@[simp] theorem vt_ag_78 : aggT Try.prog 78 = true := by kernel_rfl
@[simp] theorem vt_ce_78 : Try.prog.cellsOf 78 = 2 := by kernel_rfl
@[simp] theorem vt_by_78 : Try.prog.bytesOf 78 = 16 := by kernel_rfl
@[simp] theorem vt_fo0_78 : fieldOf Try.prog 78 0 = some (0, 3) := by kernel_rfl
@[simp] theorem vt_fo1_78 : fieldOf Try.prog 78 1 = some (1, 3) := by kernel_rfl
@[simp] theorem vt_ze_78 : zeroV Try.prog 78 = some [.d (.int .i64 0), .d (.int .i64 0)] := by kernel_rfl
@[simp] theorem vt_un_87 : (Try.prog.underlying 87).isSome = true := by kernel_rfl
@[simp] theorem vt_ag_87 : aggT Try.prog 87 = false := by kernel_rfl
@[simp] theorem vt_ce_87 : Try.prog.cellsOf 87 = 1 := by kernel_rfl
@[simp] theorem vt_by_87 : Try.prog.bytesOf 87 = 8 := by kernel_rfl
@[simp] theorem vt_ze_87 : zeroV Try.prog 87 = some [.d (.int .u64 0)] := by kernel_rfl
@[simp] theorem vt_ud_87 : Try.prog.underlying 87 = some (.int .u64) := by kernel_rfl
@[simp] theorem vt_un_93 : (Try.prog.underlying 93).isSome = true := by kernel_rfl
@[simp] theorem vt_ag_93 : aggT Try.prog 93 = true := by kernel_rfl
@[simp] theorem vt_ce_93 : Try.prog.cellsOf 93 = 2 := by kernel_rfl
@[simp] theorem vt_by_93 : Try.prog.bytesOf 93 = 16 := by kernel_rfl
@[simp] theorem vt_fo0_93 : fieldOf Try.prog 93 0 = some (0, 3) := by kernel_rfl
@[simp] theorem vt_fo1_93 : fieldOf Try.prog 93 1 = some (1, 3) := by kernel_rfl
@[simp] theorem vt_ze_93 : zeroV Try.prog 93 = some [.d (.int .i64 0), .d (.int .i64 0)] := by kernel_rfl
@[simp] theorem vt_un_94 : (Try.prog.underlying 94).isSome = true := by kernel_rfl
@[simp] theorem vt_ag_94 : aggT Try.prog 94 = true := by kernel_rfl
@[simp] theorem vt_ce_94 : Try.prog.cellsOf 94 = 2 := by kernel_rfl
@[simp] theorem vt_by_94 : Try.prog.bytesOf 94 = 16 := by kernel_rfl
@[simp] theorem vt_fo0_94 : fieldOf Try.prog 94 0 = some (0, 3) := by kernel_rfl
@[simp] theorem vt_fo1_94 : fieldOf Try.prog 94 1 = some (1, 3) := by kernel_rfl
@[simp] theorem vt_ze_94 : zeroV Try.prog 94 = some [.d (.int .i64 0), .d (.int .i64 0)] := by kernel_rfl
@[simp] theorem vt_un_105 : (Try.prog.underlying 105).isSome = true := by kernel_rfl
@[simp] theorem vt_ag_105 : aggT Try.prog 105 = true := by kernel_rfl
@[simp] theorem vt_ce_105 : Try.prog.cellsOf 105 = 3 := by kernel_rfl
@[simp] theorem vt_by_105 : Try.prog.bytesOf 105 = 40 := by kernel_rfl
@[simp] theorem vt_fo0_105 : fieldOf Try.prog 105 0 = some (0, 3) := by kernel_rfl
@[simp] theorem vt_fo1_105 : fieldOf Try.prog 105 1 = some (1, 3) := by kernel_rfl
@[simp] theorem vt_fo2_105 : fieldOf Try.prog 105 2 = some (2, 24) := by kernel_rfl
@[simp] theorem vt_ze_105 : zeroV Try.prog 105 = some [.d (.int .i64 0), .d (.int .i64 0), .nil 3] := by kernel_rfl
@[simp] theorem vt_un_112 : (Try.prog.underlying 112).isSome = true := by kernel_rfl
@[simp] theorem vt_ag_112 : aggT Try.prog 112 = true := by kernel_rfl
@[simp] theorem vt_ce_112 : Try.prog.cellsOf 112 = 2 := by kernel_rfl
@[simp] theorem vt_by_112 : Try.prog.bytesOf 112 = 16 := by kernel_rfl
@[simp] theorem vt_fo0_112 : fieldOf Try.prog 112 0 = some (0, 3) := by kernel_rfl
@[simp] theorem vt_fo1_112 : fieldOf Try.prog 112 1 = some (1, 3) := by kernel_rfl
@[simp] theorem vt_ze_112 : zeroV Try.prog 112 = some [.d (.int .i64 0), .d (.int .i64 0)] := by kernel_rfl
@[simp] theorem vt_un_116 : (Try.prog.underlying 116).isSome = true := by kernel_rfl
@[simp] theorem vt_ag_116 : aggT Try.prog 116 = false := by kernel_rfl
@[simp] theorem vt_ce_116 : Try.prog.cellsOf 116 = 1 := by kernel_rfl
@[simp] theorem vt_by_116 : Try.prog.bytesOf 116 = 24 := by kernel_rfl
@[simp] theorem vt_el_116 : elemOf Try.prog 116 = some 4 := by kernel_rfl
@[simp] theorem vt_ze_116 : zeroV Try.prog 116 = some [.nil 4] := by kernel_rfl
@[simp] theorem vt_un_120 : (Try.prog.underlying 120).isSome = true := by kernel_rfl
@[simp] theorem vt_ag_120 : aggT Try.prog 120 = true := by kernel_rfl
@[simp] theorem vt_ce_120 : Try.prog.cellsOf 120 = 3 := by kernel_rfl
@[simp] theorem vt_by_120 : Try.prog.bytesOf 120 = 40 := by kernel_rfl
@[simp] theorem vt_fo0_120 : fieldOf Try.prog 120 0 = some (0, 49) := by kernel_rfl
@[simp] theorem vt_fo1_120 : fieldOf Try.prog 120 1 = some (1, 3) := by kernel_rfl
@[simp] theorem vt_fo2_120 : fieldOf Try.prog 120 2 = some (2, 3) := by kernel_rfl
@[simp] theorem vt_ze_120 : zeroV Try.prog 120 = some [.nil 5, .d (.int .i64 0), .d (.int .i64 0)] := by kernel_rfl
@[simp] theorem vt_un_121 : (Try.prog.underlying 121).isSome = true := by kernel_rfl
@[simp] theorem vt_ag_121 : aggT Try.prog 121 = true := by kernel_rfl
@[simp] theorem vt_ce_121 : Try.prog.cellsOf 121 = 3 := by kernel_rfl
@[simp] theorem vt_by_121 : Try.prog.bytesOf 121 = 40 := by kernel_rfl
@[simp] theorem vt_fo0_121 : fieldOf Try.prog 121 0 = some (0, 49) := by kernel_rfl
@[simp] theorem vt_fo1_121 : fieldOf Try.prog 121 1 = some (1, 3) := by kernel_rfl
@[simp] theorem vt_fo2_121 : fieldOf Try.prog 121 2 = some (2, 3) := by kernel_rfl
@[simp] theorem vt_ze_121 : zeroV Try.prog 121 = some [.nil 5, .d (.int .i64 0), .d (.int .i64 0)] := by kernel_rfl
@[simp] theorem vt_un_146 : (Try.prog.underlying 146).isSome = true := by kernel_rfl
@[simp] theorem vt_ag_146 : aggT Try.prog 146 = false := by kernel_rfl
@[simp] theorem vt_ce_146 : Try.prog.cellsOf 146 = 1 := by kernel_rfl
@[simp] theorem vt_by_146 : Try.prog.bytesOf 146 = 4 := by kernel_rfl
@[simp] theorem vt_ze_146 : zeroV Try.prog 146 = some [.d (.int .u32 0)] := by kernel_rfl
@[simp] theorem vt_ud_146 : Try.prog.underlying 146 = some (.int .u32) := by kernel_rfl
@[simp] theorem vt_un_147 : (Try.prog.underlying 147).isSome = true := by kernel_rfl
@[simp] theorem vt_ag_147 : aggT Try.prog 147 = false := by kernel_rfl
@[simp] theorem vt_ce_147 : Try.prog.cellsOf 147 = 1 := by kernel_rfl
@[simp] theorem vt_by_147 : Try.prog.bytesOf 147 = 1 := by kernel_rfl
@[simp] theorem vt_ze_147 : zeroV Try.prog 147 = some [.d (.int .u8 0)] := by kernel_rfl
@[simp] theorem vt_ud_147 : Try.prog.underlying 147 = some (.int .u8) := by kernel_rfl
@[simp] theorem vt_un_148 : (Try.prog.underlying 148).isSome = true := by kernel_rfl
@[simp] theorem vt_ag_148 : aggT Try.prog 148 = false := by kernel_rfl
@[simp] theorem vt_ce_148 : Try.prog.cellsOf 148 = 1 := by kernel_rfl
@[simp] theorem vt_by_148 : Try.prog.bytesOf 148 = 1 := by kernel_rfl
@[simp] theorem vt_ze_148 : zeroV Try.prog 148 = some [.d (.int .u8 0)] := by kernel_rfl
@[simp] theorem vt_ud_148 : Try.prog.underlying 148 = some (.int .u8) := by kernel_rfl
@[simp] theorem vt_un_151 : (Try.prog.underlying 151).isSome = true := by kernel_rfl
@[simp] theorem vt_ag_151 : aggT Try.prog 151 = false := by kernel_rfl
@[simp] theorem vt_ce_151 : Try.prog.cellsOf 151 = 1 := by kernel_rfl
@[simp] theorem vt_by_151 : Try.prog.bytesOf 151 = 4 := by kernel_rfl
@[simp] theorem vt_ze_151 : zeroV Try.prog 151 = some [.d (.int .i32 0)] := by kernel_rfl
@[simp] theorem vt_ud_151 : Try.prog.underlying 151 = some (.int .i32) := by kernel_rfl
@[simp] theorem vt_un_152 : (Try.prog.underlying 152).isSome = true := by kernel_rfl
@[simp] theorem vt_ag_152 : aggT Try.prog 152 = false := by kernel_rfl
@[simp] theorem vt_ce_152 : Try.prog.cellsOf 152 = 1 := by kernel_rfl
@[simp] theorem vt_by_152 : Try.prog.bytesOf 152 = 4 := by kernel_rfl
@[simp] theorem vt_ze_152 : zeroV Try.prog 152 = some [.d (.int .i32 0)] := by kernel_rfl
@[simp] theorem vt_ud_152 : Try.prog.underlying 152 = some (.int .i32) := by kernel_rfl
end Go.Proofs.Ytdliejnmpdodhaa
