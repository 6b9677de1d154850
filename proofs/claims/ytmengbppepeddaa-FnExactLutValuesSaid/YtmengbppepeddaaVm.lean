/-
  Facts on the program's types, for abstract walks.
  Conditions: none.
-/
import Derived.Test.YtmengbppepeddaaVl
namespace Go.Proofs.Ytmengbppepeddaa
open Go.RowKit Go.ChangeShapes Go.WideShapes
@[simp] theorem vt_un_2 : (Try.prog.underlying 2).isSome = true := by kernel_rfl
@[simp] theorem vt_ag_2 : aggT Try.prog 2 = false := by kernel_rfl
@[simp] theorem vt_ce_2 : Try.prog.cellsOf 2 = 1 := by kernel_rfl
@[simp] theorem vt_by_2 : Try.prog.bytesOf 2 = 8 := by kernel_rfl
@[simp] theorem vt_ze_2 : zeroV Try.prog 2 = some [.d (.int .i64 0)] := by kernel_rfl
@[simp] theorem vt_ud_2 : Try.prog.underlying 2 = some (.int .i64) := by kernel_rfl
@[simp] theorem vt_un_3 : (Try.prog.underlying 3).isSome = true := by kernel_rfl
@[simp] theorem vt_ag_3 : aggT Try.prog 3 = false := by kernel_rfl
@[simp] theorem vt_ce_3 : Try.prog.cellsOf 3 = 1 := by kernel_rfl
@[simp] theorem vt_by_3 : Try.prog.bytesOf 3 = 8 := by kernel_rfl
@[simp] theorem vt_ze_3 : zeroV Try.prog 3 = some [.d (.int .i64 0)] := by kernel_rfl
@[simp] theorem vt_ud_3 : Try.prog.underlying 3 = some (.int .i64) := by kernel_rfl
@[simp] theorem vt_un_4 : (Try.prog.underlying 4).isSome = true := by kernel_rfl
@[simp] theorem vt_ag_4 : aggT Try.prog 4 = false := by kernel_rfl
@[simp] theorem vt_ce_4 : Try.prog.cellsOf 4 = 1 := by kernel_rfl
@[simp] theorem vt_by_4 : Try.prog.bytesOf 4 = 1 := by kernel_rfl
@[simp] theorem vt_ze_4 : zeroV Try.prog 4 = some [.d (.bool false)] := by kernel_rfl
@[simp] theorem vt_ud_4 : Try.prog.underlying 4 = some .bool := by kernel_rfl
@[simp] theorem vt_un_5 : (Try.prog.underlying 5).isSome = true := by kernel_rfl
@[simp] theorem vt_ag_5 : aggT Try.prog 5 = false := by kernel_rfl
@[simp] theorem vt_ce_5 : Try.prog.cellsOf 5 = 1 := by kernel_rfl
@[simp] theorem vt_by_5 : Try.prog.bytesOf 5 = 1 := by kernel_rfl
@[simp] theorem vt_ze_5 : zeroV Try.prog 5 = some [.d (.int .u8 0)] := by kernel_rfl
@[simp] theorem vt_ud_5 : Try.prog.underlying 5 = some (.int .u8) := by kernel_rfl
@[simp] theorem vt_un_6 : (Try.prog.underlying 6).isSome = true := by kernel_rfl
@[simp] theorem vt_ag_6 : aggT Try.prog 6 = false := by kernel_rfl
@[simp] theorem vt_ce_6 : Try.prog.cellsOf 6 = 1 := by kernel_rfl
@[simp] theorem vt_by_6 : Try.prog.bytesOf 6 = 1 := by kernel_rfl
@[simp] theorem vt_ze_6 : zeroV Try.prog 6 = some [.d (.int .u8 0)] := by kernel_rfl
@[simp] theorem vt_ud_6 : Try.prog.underlying 6 = some (.int .u8) := by kernel_rfl
@[simp] theorem vt_un_7 : (Try.prog.underlying 7).isSome = true := by kernel_rfl
@[simp] theorem vt_ag_7 : aggT Try.prog 7 = true := by kernel_rfl
@[simp] theorem vt_ce_7 : Try.prog.cellsOf 7 = 4 := by kernel_rfl
@[simp] theorem vt_by_7 : Try.prog.bytesOf 7 = 24 := by kernel_rfl
@[simp] theorem vt_fo0_7 : fieldOf Try.prog 7 0 = some (0, 2) := by kernel_rfl
@[simp] theorem vt_fo1_7 : fieldOf Try.prog 7 1 = some (1, 3) := by kernel_rfl
@[simp] theorem vt_fo2_7 : fieldOf Try.prog 7 2 = some (2, 4) := by kernel_rfl
@[simp] theorem vt_fo3_7 : fieldOf Try.prog 7 3 = some (3, 6) := by kernel_rfl
@[simp] theorem vt_ze_7 : zeroV Try.prog 7 = some [.d (.int .i64 0), .d (.int .i64 0), .d (.bool false), .d (.int .u8 0)] := by kernel_rfl
@[simp] theorem vt_un_8 : (Try.prog.underlying 8).isSome = true := by kernel_rfl
@[simp] theorem vt_ag_8 : aggT Try.prog 8 = true := by kernel_rfl
@[simp] theorem vt_ce_8 : Try.prog.cellsOf 8 = 4 := by kernel_rfl
@[simp] theorem vt_by_8 : Try.prog.bytesOf 8 = 24 := by kernel_rfl
@[simp] theorem vt_fo0_8 : fieldOf Try.prog 8 0 = some (0, 2) := by kernel_rfl
@[simp] theorem vt_fo1_8 : fieldOf Try.prog 8 1 = some (1, 3) := by kernel_rfl
@[simp] theorem vt_fo2_8 : fieldOf Try.prog 8 2 = some (2, 4) := by kernel_rfl
@[simp] theorem vt_fo3_8 : fieldOf Try.prog 8 3 = some (3, 6) := by kernel_rfl
@[simp] theorem vt_ze_8 : zeroV Try.prog 8 = some [.d (.int .i64 0), .d (.int .i64 0), .d (.bool false), .d (.int .u8 0)] := by kernel_rfl
@[simp] theorem vt_un_12 : (Try.prog.underlying 12).isSome = true := by kernel_rfl
@[simp] theorem vt_ag_12 : aggT Try.prog 12 = false := by kernel_rfl
@[simp] theorem vt_ce_12 : Try.prog.cellsOf 12 = 1 := by kernel_rfl
@[simp] theorem vt_by_12 : Try.prog.bytesOf 12 = 8 := by kernel_rfl
@[simp] theorem vt_ze_12 : zeroV Try.prog 12 = some [.d (.int .u64 0)] := by kernel_rfl
@[simp] theorem vt_ud_12 : Try.prog.underlying 12 = some (.int .u64) := by kernel_rfl
@[simp] theorem vt_un_21 : (Try.prog.underlying 21).isSome = true := by kernel_rfl
@[simp] theorem vt_ag_21 : aggT Try.prog 21 = false := by kernel_rfl
@[simp] theorem vt_ce_21 : Try.prog.cellsOf 21 = 1 := by kernel_rfl
@[simp] theorem vt_by_21 : Try.prog.bytesOf 21 = 4 := by kernel_rfl
@[simp] theorem vt_ze_21 : zeroV Try.prog 21 = some [.d (.int .i32 0)] := by kernel_rfl
@[simp] theorem vt_ud_21 : Try.prog.underlying 21 = some (.int .i32) := by kernel_rfl
@[simp] theorem vt_un_22 : (Try.prog.underlying 22).isSome = true := by kernel_rfl
@[simp] theorem vt_ag_22 : aggT Try.prog 22 = false := by kernel_rfl
@[simp] theorem vt_ce_22 : Try.prog.cellsOf 22 = 1 := by kernel_rfl
@[simp] theorem vt_by_22 : Try.prog.bytesOf 22 = 24 := by kernel_rfl
@[simp] theorem vt_el_22 : elemOf Try.prog 22 = some 71 := by kernel_rfl
@[simp] theorem vt_ze_22 : zeroV Try.prog 22 = some [.nil 71] := by kernel_rfl
@[simp] theorem vt_un_23 : (Try.prog.underlying 23).isSome = true := by kernel_rfl
@[simp] theorem vt_ag_23 : aggT Try.prog 23 = false := by kernel_rfl
@[simp] theorem vt_ce_23 : Try.prog.cellsOf 23 = 1 := by kernel_rfl
@[simp] theorem vt_by_23 : Try.prog.bytesOf 23 = 24 := by kernel_rfl
@[simp] theorem vt_el_23 : elemOf Try.prog 23 = some 73 := by kernel_rfl
@[simp] theorem vt_ze_23 : zeroV Try.prog 23 = some [.nil 73] := by kernel_rfl
@[simp] theorem vt_un_24 : (Try.prog.underlying 24).isSome = true := by kernel_rfl
@[simp] theorem vt_ag_24 : aggT Try.prog 24 = false := by kernel_rfl
@[simp] theorem vt_ce_24 : Try.prog.cellsOf 24 = 1 := by kernel_rfl
@[simp] theorem vt_by_24 : Try.prog.bytesOf 24 = 24 := by kernel_rfl
@[simp] theorem vt_el_24 : elemOf Try.prog 24 = some 3 := by kernel_rfl
@[simp] theorem vt_ze_24 : zeroV Try.prog 24 = some [.nil 3] := by kernel_rfl
@[simp] theorem vt_un_25 : (Try.prog.underlying 25).isSome = true := by kernel_rfl
@[simp] theorem vt_ag_25 : aggT Try.prog 25 = true := by kernel_rfl
@[simp] theorem vt_ce_25 : Try.prog.cellsOf 25 = 4 := by kernel_rfl
@[simp] theorem vt_by_25 : Try.prog.bytesOf 25 = 80 := by kernel_rfl
@[simp] theorem vt_fo0_25 : fieldOf Try.prog 25 0 = some (0, 3) := by kernel_rfl
@[simp] theorem vt_fo1_25 : fieldOf Try.prog 25 1 = some (1, 22) := by kernel_rfl
@[simp] theorem vt_fo2_25 : fieldOf Try.prog 25 2 = some (2, 23) := by kernel_rfl
@[simp] theorem vt_fo3_25 : fieldOf Try.prog 25 3 = some (3, 24) := by kernel_rfl
@[simp] theorem vt_ze_25 : zeroV Try.prog 25 = some [.d (.int .i64 0), .nil 71, .nil 73, .nil 3] := by kernel_rfl
@[simp] theorem vt_un_26 : (Try.prog.underlying 26).isSome = true := by kernel_rfl
@[simp] theorem vt_ag_26 : aggT Try.prog 26 = true := by kernel_rfl
@[simp] theorem vt_ce_26 : Try.prog.cellsOf 26 = 4 := by kernel_rfl
@[simp] theorem vt_by_26 : Try.prog.bytesOf 26 = 80 := by kernel_rfl
@[simp] theorem vt_fo0_26 : fieldOf Try.prog 26 0 = some (0, 3) := by kernel_rfl
@[simp] theorem vt_fo1_26 : fieldOf Try.prog 26 1 = some (1, 22) := by kernel_rfl
@[simp] theorem vt_fo2_26 : fieldOf Try.prog 26 2 = some (2, 23) := by kernel_rfl
@[simp] theorem vt_fo3_26 : fieldOf Try.prog 26 3 = some (3, 24) := by kernel_rfl
@[simp] theorem vt_ze_26 : zeroV Try.prog 26 = some [.d (.int .i64 0), .nil 71, .nil 73, .nil 3] := by kernel_rfl
@[simp] theorem vt_un_29 : (Try.prog.underlying 29).isSome = true := by kernel_rfl
@[simp] theorem vt_ag_29 : aggT Try.prog 29 = false := by kernel_rfl
@[simp] theorem vt_ce_29 : Try.prog.cellsOf 29 = 1 := by kernel_rfl
@[simp] theorem vt_by_29 : Try.prog.bytesOf 29 = 24 := by kernel_rfl
@[simp] theorem vt_el_29 : elemOf Try.prog 29 = some 57 := by kernel_rfl
@[simp] theorem vt_ze_29 : zeroV Try.prog 29 = some [.nil 57] := by kernel_rfl
@[simp] theorem vt_un_30 : (Try.prog.underlying 30).isSome = true := by kernel_rfl
@[simp] theorem vt_ag_30 : aggT Try.prog 30 = false := by kernel_rfl
@[simp] theorem vt_ce_30 : Try.prog.cellsOf 30 = 1 := by kernel_rfl
@[simp] theorem vt_by_30 : Try.prog.bytesOf 30 = 24 := by kernel_rfl
@[simp] theorem vt_el_30 : elemOf Try.prog 30 = some 59 := by kernel_rfl
@[simp] theorem vt_ze_30 : zeroV Try.prog 30 = some [.nil 59] := by kernel_rfl
@[simp] theorem vt_un_31 : (Try.prog.underlying 31).isSome = true := by kernel_rfl
@[simp] theorem vt_ag_31 : aggT Try.prog 31 = true := by kernel_rfl
@[simp] theorem vt_ce_31 : Try.prog.cellsOf 31 = 4 := by kernel_rfl
@[simp] theorem vt_by_31 : Try.prog.bytesOf 31 = 80 := by kernel_rfl
@[simp] theorem vt_fo0_31 : fieldOf Try.prog 31 0 = some (0, 3) := by kernel_rfl
@[simp] theorem vt_fo1_31 : fieldOf Try.prog 31 1 = some (1, 29) := by kernel_rfl
@[simp] theorem vt_fo2_31 : fieldOf Try.prog 31 2 = some (2, 30) := by kernel_rfl
@[simp] theorem vt_fo3_31 : fieldOf Try.prog 31 3 = some (3, 24) := by kernel_rfl
@[simp] theorem vt_ze_31 : zeroV Try.prog 31 = some [.d (.int .i64 0), .nil 57, .nil 59, .nil 3] := by kernel_rfl
@[simp] theorem vt_un_32 : (Try.prog.underlying 32).isSome = true := by kernel_rfl
@[simp] theorem vt_ag_32 : aggT Try.prog 32 = true := by kernel_rfl
@[simp] theorem vt_ce_32 : Try.prog.cellsOf 32 = 4 := by kernel_rfl
@[simp] theorem vt_by_32 : Try.prog.bytesOf 32 = 80 := by kernel_rfl
@[simp] theorem vt_fo0_32 : fieldOf Try.prog 32 0 = some (0, 3) := by kernel_rfl
@[simp] theorem vt_fo1_32 : fieldOf Try.prog 32 1 = some (1, 29) := by kernel_rfl
@[simp] theorem vt_fo2_32 : fieldOf Try.prog 32 2 = some (2, 30) := by kernel_rfl
@[simp] theorem vt_fo3_32 : fieldOf Try.prog 32 3 = some (3, 24) := by kernel_rfl
@[simp] theorem vt_ze_32 : zeroV Try.prog 32 = some [.d (.int .i64 0), .nil 57, .nil 59, .nil 3] := by kernel_rfl
@[simp] theorem vt_un_56 : (Try.prog.underlying 56).isSome = true := by kernel_rfl
@[simp] theorem vt_ag_56 : aggT Try.prog 56 = true := by kernel_rfl
@[simp] theorem vt_ce_56 : Try.prog.cellsOf 56 = 3 := by kernel_rfl
@[simp] theorem vt_by_56 : Try.prog.bytesOf 56 = 40 := by kernel_rfl
@[simp] theorem vt_fo0_56 : fieldOf Try.prog 56 0 = some (0, 3) := by kernel_rfl
@[simp] theorem vt_fo1_56 : fieldOf Try.prog 56 1 = some (1, 3) := by kernel_rfl
@[simp] theorem vt_fo2_56 : fieldOf Try.prog 56 2 = some (2, 24) := by kernel_rfl
@[simp] theorem vt_ze_56 : zeroV Try.prog 56 = some [.d (.int .i64 0), .d (.int .i64 0), .nil 3] := by kernel_rfl
@[simp] theorem vt_un_57 : (Try.prog.underlying 57).isSome = true := by kernel_rfl
@[simp] theorem vt_ag_57 : aggT Try.prog 57 = true := by kernel_rfl
@[simp] theorem vt_ce_57 : Try.prog.cellsOf 57 = 3 := by kernel_rfl
@[simp] theorem vt_by_57 : Try.prog.bytesOf 57 = 40 := by kernel_rfl
@[simp] theorem vt_fo0_57 : fieldOf Try.prog 57 0 = some (0, 3) := by kernel_rfl
@[simp] theorem vt_fo1_57 : fieldOf Try.prog 57 1 = some (1, 3) := by kernel_rfl
@[simp] theorem vt_fo2_57 : fieldOf Try.prog 57 2 = some (2, 24) := by kernel_rfl
@[simp] theorem vt_ze_57 : zeroV Try.prog 57 = some [.d (.int .i64 0), .d (.int .i64 0), .nil 3] := by kernel_rfl
@[simp] theorem vt_un_58 : (Try.prog.underlying 58).isSome = true := by kernel_rfl
@[simp] theorem vt_ag_58 : aggT Try.prog 58 = true := by kernel_rfl
@[simp] theorem vt_ce_58 : Try.prog.cellsOf 58 = 2 := by kernel_rfl
@[simp] theorem vt_by_58 : Try.prog.bytesOf 58 = 32 := by kernel_rfl
@[simp] theorem vt_fo0_58 : fieldOf Try.prog 58 0 = some (0, 24) := by kernel_rfl
@[simp] theorem vt_fo1_58 : fieldOf Try.prog 58 1 = some (1, 3) := by kernel_rfl
@[simp] theorem vt_ze_58 : zeroV Try.prog 58 = some [.nil 3, .d (.int .i64 0)] := by kernel_rfl
@[simp] theorem vt_un_59 : (Try.prog.underlying 59).isSome = true := by kernel_rfl
@[simp] theorem vt_ag_59 : aggT Try.prog 59 = true := by kernel_rfl
@[simp] theorem vt_ce_59 : Try.prog.cellsOf 59 = 2 := by kernel_rfl
@[simp] theorem vt_by_59 : Try.prog.bytesOf 59 = 32 := by kernel_rfl
@[simp] theorem vt_fo0_59 : fieldOf Try.prog 59 0 = some (0, 24) := by kernel_rfl
@[simp] theorem vt_fo1_59 : fieldOf Try.prog 59 1 = some (1, 3) := by kernel_rfl
@[simp] theorem vt_ze_59 : zeroV Try.prog 59 = some [.nil 3, .d (.int .i64 0)] := by kernel_rfl
@[simp] theorem vt_un_61 : (Try.prog.underlying 61).isSome = true := by kernel_rfl
@[simp] theorem vt_ag_61 : aggT Try.prog 61 = true := by kernel_rfl
@[simp] theorem vt_ce_61 : Try.prog.cellsOf 61 = 2 := by kernel_rfl
@[simp] theorem vt_by_61 : Try.prog.bytesOf 61 = 16 := by kernel_rfl
@[simp] theorem vt_fo0_61 : fieldOf Try.prog 61 0 = some (0, 3) := by kernel_rfl
@[simp] theorem vt_fo1_61 : fieldOf Try.prog 61 1 = some (1, 3) := by kernel_rfl
@[simp] theorem vt_ze_61 : zeroV Try.prog 61 = some [.d (.int .i64 0), .d (.int .i64 0)] := by kernel_rfl
@[simp] theorem vt_un_62 : (Try.prog.underlying 62).isSome = true := by kernel_rfl
@[simp] theorem vt_ag_62 : aggT Try.prog 62 = true := by kernel_rfl
@[simp] theorem vt_ce_62 : Try.prog.cellsOf 62 = 2 := by kernel_rfl
@[simp] theorem vt_by_62 : Try.prog.bytesOf 62 = 16 := by kernel_rfl
@[simp] theorem vt_fo0_62 : fieldOf Try.prog 62 0 = some (0, 3) := by kernel_rfl
@[simp] theorem vt_fo1_62 : fieldOf Try.prog 62 1 = some (1, 3) := by kernel_rfl
@[simp] theorem vt_ze_62 : zeroV Try.prog 62 = some [.d (.int .i64 0), .d (.int .i64 0)] := by kernel_rfl
@[simp] theorem vt_un_71 : (Try.prog.underlying 71).isSome = true := by kernel_rfl
@[simp] theorem vt_ag_71 : aggT Try.prog 71 = true := by kernel_rfl
@[simp] theorem vt_ce_71 : Try.prog.cellsOf 71 = 3 := by kernel_rfl
@[simp] theorem vt_by_71 : Try.prog.bytesOf 71 = 40 := by kernel_rfl
@[simp] theorem vt_fo0_71 : fieldOf Try.prog 71 0 = some (0, 3) := by kernel_rfl
@[simp] theorem vt_fo1_71 : fieldOf Try.prog 71 1 = some (1, 3) := by kernel_rfl
@[simp] theorem vt_fo2_71 : fieldOf Try.prog 71 2 = some (2, 24) := by kernel_rfl
@[simp] theorem vt_ze_71 : zeroV Try.prog 71 = some [.d (.int .i64 0), .d (.int .i64 0), .nil 3] := by kernel_rfl
@[simp] theorem vt_un_73 : (Try.prog.underlying 73).isSome = true := by kernel_rfl
@[simp] theorem vt_ag_73 : aggT Try.prog 73 = true := by kernel_rfl
@[simp] theorem vt_ce_73 : Try.prog.cellsOf 73 = 2 := by kernel_rfl
@[simp] theorem vt_by_73 : Try.prog.bytesOf 73 = 32 := by kernel_rfl
@[simp] theorem vt_fo0_73 : fieldOf Try.prog 73 0 = some (0, 24) := by kernel_rfl
@[simp] theorem vt_fo1_73 : fieldOf Try.prog 73 1 = some (1, 3) := by kernel_rfl
@[simp] theorem vt_ze_73 : zeroV Try.prog 73 = some [.nil 3, .d (.int .i64 0)] := by kernel_rfl
@[simp] theorem vt_un_78 : (Try.prog.underlying 78).isSome = true := by kernel_rfl
@[simp] theorem vt_ag_78 : aggT Try.prog 78 = false := by kernel_rfl
@[simp] theorem vt_ce_78 : Try.prog.cellsOf 78 = 1 := by kernel_rfl
@[simp] theorem vt_by_78 : Try.prog.bytesOf 78 = 8 := by kernel_rfl
@[simp] theorem vt_ze_78 : zeroV Try.prog 78 = some [.d (.int .u64 0)] := by kernel_rfl
@[simp] theorem vt_ud_78 : Try.prog.underlying 78 = some (.int .u64) := by kernel_rfl
@[simp] theorem vt_un_86 : (Try.prog.underlying 86).isSome = true := by kernel_rfl
@[simp] theorem vt_ag_86 : aggT Try.prog 86 = false := by kernel_rfl
@[simp] theorem vt_ce_86 : Try.prog.cellsOf 86 = 1 := by kernel_rfl
@[simp] theorem vt_by_86 : Try.prog.bytesOf 86 = 4 := by kernel_rfl
@[simp] theorem vt_ze_86 : zeroV Try.prog 86 = some [.d (.int .u32 0)] := by kernel_rfl
@[simp] theorem vt_ud_86 : Try.prog.underlying 86 = some (.int .u32) := by kernel_rfl
@[simp] theorem vt_un_87 : (Try.prog.underlying 87).isSome = true := by kernel_rfl
@[simp] theorem vt_ag_87 : aggT Try.prog 87 = false := by kernel_rfl
@[simp] theorem vt_ce_87 : Try.prog.cellsOf 87 = 1 := by kernel_rfl
@[simp] theorem vt_by_87 : Try.prog.bytesOf 87 = 1 := by kernel_rfl
@[simp] theorem vt_ze_87 : zeroV Try.prog 87 = some [.d (.int .u8 0)] := by kernel_rfl
@[simp] theorem vt_ud_87 : Try.prog.underlying 87 = some (.int .u8) := by kernel_rfl
@[simp] theorem vt_un_88 : (Try.prog.underlying 88).isSome = true := by kernel_rfl
@[simp] theorem vt_ag_88 : aggT Try.prog 88 = false := by kernel_rfl
@[simp] theorem vt_ce_88 : Try.prog.cellsOf 88 = 1 := by kernel_rfl
@[simp] theorem vt_by_88 : Try.prog.bytesOf 88 = 1 := by kernel_rfl
@[simp] theorem vt_ze_88 : zeroV Try.prog 88 = some [.d (.int .u8 0)] := by kernel_rfl
@[simp] theorem vt_ud_88 : Try.prog.underlying 88 = some (.int .u8) := by kernel_rfl
@[simp] theorem vt_un_91 : (Try.prog.underlying 91).isSome = true := by kernel_rfl
@[simp] theorem vt_ag_91 : aggT Try.prog 91 = false := by kernel_rfl
@[simp] theorem vt_ce_91 : Try.prog.cellsOf 91 = 1 := by kernel_rfl
@[simp] theorem vt_by_91 : Try.prog.bytesOf 91 = 4 := by kernel_rfl
@[simp] theorem vt_ze_91 : zeroV Try.prog 91 = some [.d (.int .i32 0)] := by kernel_rfl
@[simp] theorem vt_ud_91 : Try.prog.underlying 91 = some (.int .i32) := by kernel_rfl
@[simp] theorem vt_un_92 : (Try.prog.underlying 92).isSome = true := by kernel_rfl
@[simp] theorem vt_ag_92 : aggT Try.prog 92 = false := by kernel_rfl
@[simp] theorem vt_ce_92 : Try.prog.cellsOf 92 = 1 := by kernel_rfl
@[simp] theorem vt_by_92 : Try.prog.bytesOf 92 = 4 := by kernel_rfl
@[simp] theorem vt_ze_92 : zeroV Try.prog 92 = some [.d (.int .i32 0)] := by kernel_rfl
@[simp] theorem vt_ud_92 : Try.prog.underlying 92 = some (.int .i32) := by kernel_rfl
end Go.Proofs.Ytmengbppepeddaa
