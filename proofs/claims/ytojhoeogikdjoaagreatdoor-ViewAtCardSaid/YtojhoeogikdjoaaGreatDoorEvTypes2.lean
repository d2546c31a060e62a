/- What slices, maps and plain structs of the program are made of; conditions: none. -/
import Derived.Test.YtojhoeogikdjoaaGreatDoorEvMaps
import Derived.Test.YtojhoeogikdjoaaGreatDoorEvTypes
set_option linter.unusedVariables false
set_option linter.unusedSimpArgs false
set_option maxRecDepth 10000
namespace Go.Ev
open Go.Proofs
theorem rt22 : rowTy Tryz.prog 22 = some (99, 37, 312) := by kernel_rfl
theorem rt30 : rowTy Tryz.prog 30 = some (32, 3, 40) := by kernel_rfl
theorem rt37 : rowTy Tryz.prog 37 = some (3, 1, 8) := by kernel_rfl
theorem rt39 : rowTy Tryz.prog 39 = some (49, 12, 104) := by kernel_rfl
theorem rt44 : rowTy Tryz.prog 44 = some (171, 5, 16) := by kernel_rfl
theorem rt47 : rowTy Tryz.prog 47 = some (114, 1, 24) := by kernel_rfl
theorem rt57 : rowTy Tryz.prog 57 = some (83, 51, 440) := by kernel_rfl
theorem rt61 : rowTy Tryz.prog 61 = some (63, 4, 32) := by kernel_rfl
theorem rt74 : rowTy Tryz.prog 74 = some (81, 7, 56) := by kernel_rfl
theorem mt105 : mapTy Tryz.prog 105 = some (3, 76) := by kernel_rfl
theorem rt114 : rowTy Tryz.prog 114 = some (26, 2, 16) := by kernel_rfl
theorem rt131 : rowTy Tryz.prog 131 = some (130, 4, 48) := by kernel_rfl
theorem mt132 : mapTy Tryz.prog 132 = some (3, 3) := by kernel_rfl
theorem rt141 : rowTy Tryz.prog 141 = some (43, 4, 4) := by kernel_rfl
theorem rt168 : rowTy Tryz.prog 168 = some (167, 1, 8) := by kernel_rfl
theorem mt186 : mapTy Tryz.prog 186 = some (194, 143) := by kernel_rfl
theorem rt187 : rowTy Tryz.prog 187 = some (194, 2, 16) := by kernel_rfl
theorem rt206 : rowTy Tryz.prog 206 = some (211, 2, 32) := by kernel_rfl
theorem rt234 : rowTy Tryz.prog 234 = some (238, 36, 320) := by kernel_rfl
theorem rt236 : rowTy Tryz.prog 236 = some (296, 34, 272) := by kernel_rfl
theorem rt261 : rowTy Tryz.prog 261 = some (46, 10, 72) := by kernel_rfl
theorem rt263 : rowTy Tryz.prog 263 = some (262, 3, 24) := by kernel_rfl
theorem mt279 : mapTy Tryz.prog 279 = some (3, 4) := by kernel_rfl
theorem rt316 : rowTy Tryz.prog 316 = some (315, 10, 80) := by kernel_rfl
theorem rt339 : rowTy Tryz.prog 339 = some (74, 1, 24) := by kernel_rfl
theorem rt362 : rowTy Tryz.prog 362 = some (5, 1, 1) := by kernel_rfl
theorem rt375 : rowTy Tryz.prog 375 = some (378, 2, 16) := by kernel_rfl
theorem zc3 : ((Tryz.prog.info? 3).bind (·.zero)).map (·.cells.toList) = some [.int .i64 0] := by kernel_rfl
theorem zc5 : ((Tryz.prog.info? 5).bind (·.zero)).map (·.cells.toList) = some [.int .u8 0] := by kernel_rfl
theorem zc26 : ((Tryz.prog.info? 26).bind (·.zero)).map (·.cells.toList) = some [.int .i64 0, .int .i64 0] := by kernel_rfl
theorem zc32 : ((Tryz.prog.info? 32).bind (·.zero)).map (·.cells.toList) = some [.int .i64 0, .bool false, .slice none 0 0] := by kernel_rfl
theorem zc43 : ((Tryz.prog.info? 43).bind (·.zero)).map (·.cells.toList) = some [.int .u8 0, .int .u8 0, .int .u8 0, .int .u8 0] := by kernel_rfl
theorem zc46 : ((Tryz.prog.info? 46).bind (·.zero)).map (·.cells.toList) = some [.int .i64 0, .int .u8 0, .int .u8 0, .int .u8 0, .int .u8 0, .int .i64 0, .int .i64 0, .int .i64 0, .int .i64 0, .slice none 0 0] := by kernel_rfl
theorem zc49 : ((Tryz.prog.info? 49).bind (·.zero)).map (·.cells.toList) = some [.int .i64 0, .int .u8 0, .int .u8 0, .int .u8 0, .int .u8 0, .int .i64 0, .int .i64 0, .int .i64 0, .int .i64 0, .slice none 0 0, .int .i64 0, .slice none 0 0] := by kernel_rfl
theorem zc63 : ((Tryz.prog.info? 63).bind (·.zero)).map (·.cells.toList) = some [.int .i64 0, .int .i64 0, .int .i64 0, .int .i64 0] := by kernel_rfl
theorem zc74 : ((Tryz.prog.info? 74).bind (·.zero)).map (·.cells.toList) = some [.slice none 0 0] := by kernel_rfl
theorem zc81 : ((Tryz.prog.info? 81).bind (·.zero)).map (·.cells.toList) = some [.int .i64 0, .int .i64 0, .int .i64 0, .int .i64 0, .int .i64 0, .int .i64 0, .int .i64 0] := by kernel_rfl
theorem zc83 : ((Tryz.prog.info? 83).bind (·.zero)).map (·.cells.toList) = some [.int .i64 0, .int .i64 0, .int .i64 0, .int .i64 0, .int .i64 0, .int .i64 0, .int .i64 0, .slice none 0 0, .int .i64 0, .int .i64 0, .int .i64 0, .int .i64 0, .int .i64 0, .int .i64 0, .int .i64 0, .int .u8 0, .int .u8 0, .int .u8 0, .int .u8 0, .int .i64 0, .int .i64 0, .int .i64 0, .int .i64 0, .slice none 0 0, .int .i64 0, .int .u8 0, .int .u8 0, .int .u8 0, .int .u8 0, .int .i64 0, .int .i64 0, .int .i64 0, .int .i64 0, .slice none 0 0, .int .i64 0, .int .i64 0, .int .i64 0, .slice none 0 0, .int .i64 0, .int .i64 0, .int .i64 0, .slice none 0 0, .int .i64 0, .int .i64 0, .int .i64 0, .int .i64 0, .int .i64 0, .int .i64 0, .int .i64 0, .int .i64 0, .int .i64 0] := by kernel_rfl
theorem zc99 : ((Tryz.prog.info? 99).bind (·.zero)).map (·.cells.toList) = some [.int .i64 0, .bool false, .int .i64 0, .int .i64 0, .int .i64 0, .int .i64 0, .int .i64 0, .int .i64 0, .int .i64 0, .int .i64 0, .int .u8 0, .int .u8 0, .int .u8 0, .int .u8 0, .int .i64 0, .int .i64 0, .int .i64 0, .int .i64 0, .slice none 0 0, .int .i64 0, .int .u8 0, .int .u8 0, .int .u8 0, .int .u8 0, .int .i64 0, .int .i64 0, .int .i64 0, .int .i64 0, .slice none 0 0, .int .i64 0, .int .i64 0, .int .i64 0, .slice none 0 0, .int .i64 0, .int .i64 0, .int .i64 0, .slice none 0 0] := by kernel_rfl
theorem zc114 : ((Tryz.prog.info? 114).bind (·.zero)).map (·.cells.toList) = some [.slice none 0 0] := by kernel_rfl
theorem zc130 : ((Tryz.prog.info? 130).bind (·.zero)).map (·.cells.toList) = some [.int .i64 0, .bool false, .int .i64 0, .slice none 0 0] := by kernel_rfl
theorem zc167 : ((Tryz.prog.info? 167).bind (·.zero)).map (·.cells.toList) = some [.pointer none] := by kernel_rfl
theorem zc171 : ((Tryz.prog.info? 171).bind (·.zero)).map (·.cells.toList) = some [.int .i64 0, .int .u8 0, .int .u8 0, .int .u8 0, .int .u8 0] := by kernel_rfl
theorem zc194 : ((Tryz.prog.info? 194).bind (·.zero)).map (·.cells.toList) = some [.int .i64 0, .int .i64 0] := by kernel_rfl
theorem zc211 : ((Tryz.prog.info? 211).bind (·.zero)).map (·.cells.toList) = some [.slice none 0 0, .bool false] := by kernel_rfl
theorem zc238 : ((Tryz.prog.info? 238).bind (·.zero)).map (·.cells.toList) = some [.int .i64 0, .int .i64 0, .int .i64 0, .int .i64 0, .int .i64 0, .int .i64 0, .int .i64 0, .int .i64 0, .int .u8 0, .int .u8 0, .int .u8 0, .int .u8 0, .int .i64 0, .int .i64 0, .int .i64 0, .int .i64 0, .slice none 0 0, .int .i64 0, .int .u8 0, .int .u8 0, .int .u8 0, .int .u8 0, .int .i64 0, .int .i64 0, .int .i64 0, .int .i64 0, .slice none 0 0, .int .i64 0, .int .i64 0, .int .i64 0, .slice none 0 0, .int .i64 0, .int .i64 0, .int .i64 0, .slice none 0 0, .slice none 0 0] := by kernel_rfl
theorem zc262 : ((Tryz.prog.info? 262).bind (·.zero)).map (·.cells.toList) = some [.int .i64 0, .int .i64 0, .int .i64 0] := by kernel_rfl
theorem zc296 : ((Tryz.prog.info? 296).bind (·.zero)).map (·.cells.toList) = some [.int .i64 0, .int .i64 0, .int .i64 0, .int .i64 0, .int .i64 0, .int .i64 0, .int .i64 0, .int .i64 0, .int .u8 0, .int .u8 0, .int .u8 0, .int .u8 0, .int .i64 0, .int .i64 0, .int .i64 0, .int .i64 0, .slice none 0 0, .int .i64 0, .int .u8 0, .int .u8 0, .int .u8 0, .int .u8 0, .int .i64 0, .int .i64 0, .int .i64 0, .int .i64 0, .slice none 0 0, .int .i64 0, .int .i64 0, .int .i64 0, .slice none 0 0, .int .i64 0, .int .i64 0, .int .i64 0] := by kernel_rfl
theorem zc315 : ((Tryz.prog.info? 315).bind (·.zero)).map (·.cells.toList) = some [.int .i64 0, .int .i64 0, .int .i64 0, .int .i64 0, .int .i64 0, .int .i64 0, .int .i64 0, .int .i64 0, .int .i64 0, .int .i64 0] := by kernel_rfl
theorem zc378 : ((Tryz.prog.info? 378).bind (·.zero)).map (·.cells.toList) = some [.int .i64 0, .int .i64 0] := by kernel_rfl
theorem zo3 : zeroOf Tryz.prog 3 = some (.int .i64 0) := by kernel_rfl
theorem zo4 : zeroOf Tryz.prog 4 = some (.bool false) := by kernel_rfl
theorem zo76 : zeroOf Tryz.prog 76 = some (.agg #[.int .i64 0, .int .i64 0, .int .i64 0, .int .i64 0, .int .i64 0, .int .i64 0, .int .i64 0, .int .u8 0, .int .u8 0, .int .u8 0, .int .u8 0, .int .i64 0, .int .i64 0, .int .i64 0, .int .i64 0, .slice none 0 0, .int .i64 0, .int .u8 0, .int .u8 0, .int .u8 0, .int .u8 0, .int .i64 0, .int .i64 0, .int .i64 0, .int .i64 0, .slice none 0 0, .int .i64 0, .int .i64 0, .int .i64 0, .slice none 0 0, .int .i64 0, .int .i64 0, .int .i64 0, .slice none 0 0]) := by kernel_rfl
theorem zo143 : zeroOf Tryz.prog 143 = some (.agg #[.int .i64 0, .int .i64 0, .slice none 0 0]) := by kernel_rfl
end Go.Ev
