/- The types of the program, as the walk asks for them; conditions: none. -/
import Derived.Test.YtojhoeogikdjoaaGreatDoorEvUse
import Derived.KernelRfl
import Derived.Test.YtojhoeogikdjoaaGreatDoorProg
set_option linter.unusedVariables false
set_option linter.unusedSimpArgs false
namespace Go.Ev
open Go.Proofs
def td1 : TD := ⟨1, [.nilFunc], .other⟩
theorem td1_ok : tdOf Tryz.prog 1 = some td1 := by kernel_rfl
def td2 : TD := ⟨1, [.int .i64 0], .int .i64⟩
theorem td2_ok : tdOf Tryz.prog 2 = some td2 := by kernel_rfl
def td3 : TD := ⟨1, [.int .i64 0], .int .i64⟩
theorem td3_ok : tdOf Tryz.prog 3 = some td3 := by kernel_rfl
def td4 : TD := ⟨1, [.bool false], .bool⟩
theorem td4_ok : tdOf Tryz.prog 4 = some td4 := by kernel_rfl
def td5 : TD := ⟨1, [.int .u8 0], .int .u8⟩
theorem td5_ok : tdOf Tryz.prog 5 = some td5 := by kernel_rfl
def td6 : TD := ⟨1, [.int .u8 0], .int .u8⟩
theorem td6_ok : tdOf Tryz.prog 6 = some td6 := by kernel_rfl
def td7 : TD := ⟨4, [.int .i64 0, .int .i64 0, .bool false, .int .u8 0], .struct [(0, 1, false), (1, 1, false), (2, 1, false), (3, 1, false)]⟩
theorem td7_ok : tdOf Tryz.prog 7 = some td7 := by kernel_rfl
def td8 : TD := ⟨4, [.int .i64 0, .int .i64 0, .bool false, .int .u8 0], .struct [(0, 1, false), (1, 1, false), (2, 1, false), (3, 1, false)]⟩
theorem td8_ok : tdOf Tryz.prog 8 = some td8 := by kernel_rfl
def td9 : TD := ⟨1, [.string ⟨#[]⟩], .str⟩
theorem td9_ok : tdOf Tryz.prog 9 = some td9 := by kernel_rfl
def td10 : TD := ⟨1, [.string ⟨#[]⟩], .str⟩
theorem td10_ok : tdOf Tryz.prog 10 = some td10 := by kernel_rfl
def td11 : TD := ⟨1, [.string ⟨#[]⟩], .str⟩
theorem td11_ok : tdOf Tryz.prog 11 = some td11 := by kernel_rfl
def td12 : TD := ⟨1, [.int .u64 0], .int .u64⟩
theorem td12_ok : tdOf Tryz.prog 12 = some td12 := by kernel_rfl
def td13 : TD := ⟨2, [.string ⟨#[]⟩, .int .u64 0], .struct [(0, 1, false), (1, 1, false)]⟩
theorem td13_ok : tdOf Tryz.prog 13 = some td13 := by kernel_rfl
def td14 : TD := ⟨2, [.string ⟨#[]⟩, .int .u64 0], .struct [(0, 1, false), (1, 1, false)]⟩
theorem td14_ok : tdOf Tryz.prog 14 = some td14 := by kernel_rfl
def td15 : TD := ⟨1, [.pointer none], .ptr⟩
theorem td15_ok : tdOf Tryz.prog 15 = some td15 := by kernel_rfl
def td16 : TD := ⟨1, [.pointer none], .ptr⟩
theorem td16_ok : tdOf Tryz.prog 16 = some td16 := by kernel_rfl
def td17 : TD := ⟨1, [.pointer none], .ptr⟩
theorem td17_ok : tdOf Tryz.prog 17 = some td17 := by kernel_rfl
def td18 : TD := ⟨1, [.pointer none], .struct [(0, 1, false)]⟩
theorem td18_ok : tdOf Tryz.prog 18 = some td18 := by kernel_rfl
def td19 : TD := ⟨1, [.pointer none], .struct [(0, 1, false)]⟩
theorem td19_ok : tdOf Tryz.prog 19 = some td19 := by kernel_rfl
def td20 : TD := ⟨1, [.nilIface], .other⟩
theorem td20_ok : tdOf Tryz.prog 20 = some td20 := by kernel_rfl
def td21 : TD := ⟨1, [.int .i32 0], .int .i32⟩
theorem td21_ok : tdOf Tryz.prog 21 = some td21 := by kernel_rfl
def td22 : TD := ⟨1, [.slice none 0 0], .slice 99 37⟩
theorem td22_ok : tdOf Tryz.prog 22 = some td22 := by kernel_rfl
def td23 : TD := ⟨6, [.int .i64 0, .int .i64 0, .int .i64 0, .int .i64 0, .int .i64 0, .int .i64 0], .struct [(0, 1, false), (1, 1, false), (2, 1, false), (3, 1, false), (4, 1, false), (5, 1, false)]⟩
theorem td23_ok : tdOf Tryz.prog 23 = some td23 := by kernel_rfl
def td24 : TD := ⟨6, [.int .i64 0, .int .i64 0, .int .i64 0, .int .i64 0, .int .i64 0, .int .i64 0], .struct [(0, 1, false), (1, 1, false), (2, 1, false), (3, 1, false), (4, 1, false), (5, 1, false)]⟩
theorem td24_ok : tdOf Tryz.prog 24 = some td24 := by kernel_rfl
def td25 : TD := ⟨2, [.int .i64 0, .int .i64 0], .struct [(0, 1, false), (1, 1, false)]⟩
theorem td25_ok : tdOf Tryz.prog 25 = some td25 := by kernel_rfl
def td26 : TD := ⟨2, [.int .i64 0, .int .i64 0], .struct [(0, 1, false), (1, 1, false)]⟩
theorem td26_ok : tdOf Tryz.prog 26 = some td26 := by kernel_rfl
def td27 : TD := ⟨1, [.pointer none], .ptr⟩
theorem td27_ok : tdOf Tryz.prog 27 = some td27 := by kernel_rfl
def td28 : TD := ⟨1, [.nilFunc], .other⟩
theorem td28_ok : tdOf Tryz.prog 28 = some td28 := by kernel_rfl
def td29 : TD := ⟨1, [.nilFunc], .other⟩
theorem td29_ok : tdOf Tryz.prog 29 = some td29 := by kernel_rfl
def td30 : TD := ⟨1, [.slice none 0 0], .slice 32 3⟩
theorem td30_ok : tdOf Tryz.prog 30 = some td30 := by kernel_rfl
def td31 : TD := ⟨3, [.int .i64 0, .bool false, .slice none 0 0], .struct [(0, 1, false), (1, 1, false), (2, 1, false)]⟩
theorem td31_ok : tdOf Tryz.prog 31 = some td31 := by kernel_rfl
def td32 : TD := ⟨3, [.int .i64 0, .bool false, .slice none 0 0], .struct [(0, 1, false), (1, 1, false), (2, 1, false)]⟩
theorem td32_ok : tdOf Tryz.prog 32 = some td32 := by kernel_rfl
def td34 : TD := ⟨1, [.pointer none], .ptr⟩
theorem td34_ok : tdOf Tryz.prog 34 = some td34 := by kernel_rfl
def td35 : TD := ⟨1, [.nilFunc], .other⟩
theorem td35_ok : tdOf Tryz.prog 35 = some td35 := by kernel_rfl
def td36 : TD := ⟨1, [.nilFunc], .other⟩
theorem td36_ok : tdOf Tryz.prog 36 = some td36 := by kernel_rfl
def td37 : TD := ⟨1, [.slice none 0 0], .slice 3 1⟩
theorem td37_ok : tdOf Tryz.prog 37 = some td37 := by kernel_rfl
def td38 : TD := ⟨1, [.nilFunc], .other⟩
theorem td38_ok : tdOf Tryz.prog 38 = some td38 := by kernel_rfl
def td39 : TD := ⟨1, [.slice none 0 0], .slice 49 12⟩
theorem td39_ok : tdOf Tryz.prog 39 = some td39 := by kernel_rfl
def td41 : TD := ⟨1, [.nilFunc], .other⟩
theorem td41_ok : tdOf Tryz.prog 41 = some td41 := by kernel_rfl
def td42 : TD := ⟨4, [.int .u8 0, .int .u8 0, .int .u8 0, .int .u8 0], .arr 4 1 false⟩
theorem td42_ok : tdOf Tryz.prog 42 = some td42 := by kernel_rfl
def td43 : TD := ⟨4, [.int .u8 0, .int .u8 0, .int .u8 0, .int .u8 0], .arr 4 1 false⟩
theorem td43_ok : tdOf Tryz.prog 43 = some td43 := by kernel_rfl
def td44 : TD := ⟨1, [.slice none 0 0], .slice 171 5⟩
theorem td44_ok : tdOf Tryz.prog 44 = some td44 := by kernel_rfl
def td45 : TD := ⟨10, [.int .i64 0, .int .u8 0, .int .u8 0, .int .u8 0, .int .u8 0, .int .i64 0, .int .i64 0, .int .i64 0, .int .i64 0, .slice none 0 0], .struct [(0, 1, false), (1, 4, true), (5, 2, true), (7, 2, true), (9, 1, false)]⟩
theorem td45_ok : tdOf Tryz.prog 45 = some td45 := by kernel_rfl
def td46 : TD := ⟨10, [.int .i64 0, .int .u8 0, .int .u8 0, .int .u8 0, .int .u8 0, .int .i64 0, .int .i64 0, .int .i64 0, .int .i64 0, .slice none 0 0], .struct [(0, 1, false), (1, 4, true), (5, 2, true), (7, 2, true), (9, 1, false)]⟩
theorem td46_ok : tdOf Tryz.prog 46 = some td46 := by kernel_rfl
def td47 : TD := ⟨1, [.slice none 0 0], .slice 114 1⟩
theorem td47_ok : tdOf Tryz.prog 47 = some td47 := by kernel_rfl
def td48 : TD := ⟨12, [.int .i64 0, .int .u8 0, .int .u8 0, .int .u8 0, .int .u8 0, .int .i64 0, .int .i64 0, .int .i64 0, .int .i64 0, .slice none 0 0, .int .i64 0, .slice none 0 0], .struct [(0, 10, true), (10, 1, false), (11, 1, false)]⟩
theorem td48_ok : tdOf Tryz.prog 48 = some td48 := by kernel_rfl
def td49 : TD := ⟨12, [.int .i64 0, .int .u8 0, .int .u8 0, .int .u8 0, .int .u8 0, .int .i64 0, .int .i64 0, .int .i64 0, .int .i64 0, .slice none 0 0, .int .i64 0, .slice none 0 0], .struct [(0, 10, true), (10, 1, false), (11, 1, false)]⟩
theorem td49_ok : tdOf Tryz.prog 49 = some td49 := by kernel_rfl
def td50 : TD := ⟨1, [.nilFunc], .other⟩
theorem td50_ok : tdOf Tryz.prog 50 = some td50 := by kernel_rfl
def td51 : TD := ⟨1, [.nilFunc], .other⟩
theorem td51_ok : tdOf Tryz.prog 51 = some td51 := by kernel_rfl
def td52 : TD := ⟨1, [.nilFunc], .other⟩
theorem td52_ok : tdOf Tryz.prog 52 = some td52 := by kernel_rfl
def td54 : TD := ⟨1, [.nilFunc], .other⟩
theorem td54_ok : tdOf Tryz.prog 54 = some td54 := by kernel_rfl
def td55 : TD := ⟨1, [.nilFunc], .other⟩
theorem td55_ok : tdOf Tryz.prog 55 = some td55 := by kernel_rfl
def td56 : TD := ⟨1, [.nilFunc], .other⟩
theorem td56_ok : tdOf Tryz.prog 56 = some td56 := by kernel_rfl
def td57 : TD := ⟨1, [.slice none 0 0], .slice 83 51⟩
theorem td57_ok : tdOf Tryz.prog 57 = some td57 := by kernel_rfl
def td58 : TD := ⟨1, [.int .i64 0], .int .i64⟩
theorem td58_ok : tdOf Tryz.prog 58 = some td58 := by kernel_rfl
def td60 : TD := ⟨1, [.nilFunc], .other⟩
theorem td60_ok : tdOf Tryz.prog 60 = some td60 := by kernel_rfl
def td61 : TD := ⟨1, [.slice none 0 0], .slice 63 4⟩
theorem td61_ok : tdOf Tryz.prog 61 = some td61 := by kernel_rfl
def td62 : TD := ⟨4, [.int .i64 0, .int .i64 0, .int .i64 0, .int .i64 0], .struct [(0, 1, false), (1, 1, false), (2, 1, false), (3, 1, false)]⟩
theorem td62_ok : tdOf Tryz.prog 62 = some td62 := by kernel_rfl
def td63 : TD := ⟨4, [.int .i64 0, .int .i64 0, .int .i64 0, .int .i64 0], .struct [(0, 1, false), (1, 1, false), (2, 1, false), (3, 1, false)]⟩
theorem td63_ok : tdOf Tryz.prog 63 = some td63 := by kernel_rfl
def td65 : TD := ⟨1, [.nilFunc], .other⟩
theorem td65_ok : tdOf Tryz.prog 65 = some td65 := by kernel_rfl
def td66 : TD := ⟨1, [.nilFunc], .other⟩
theorem td66_ok : tdOf Tryz.prog 66 = some td66 := by kernel_rfl
def td68 : TD := ⟨1, [.nilFunc], .other⟩
theorem td68_ok : tdOf Tryz.prog 68 = some td68 := by kernel_rfl
def td69 : TD := ⟨1, [.nilFunc], .other⟩
theorem td69_ok : tdOf Tryz.prog 69 = some td69 := by kernel_rfl
def td70 : TD := ⟨2, [.slice none 0 0, .int .i64 0], .struct [(0, 1, false), (1, 1, false)]⟩
theorem td70_ok : tdOf Tryz.prog 70 = some td70 := by kernel_rfl
def td71 : TD := ⟨2, [.slice none 0 0, .int .i64 0], .struct [(0, 1, false), (1, 1, false)]⟩
theorem td71_ok : tdOf Tryz.prog 71 = some td71 := by kernel_rfl
def td72 : TD := ⟨27, [.int .i64 0, .int .u8 0, .int .u8 0, .int .u8 0, .int .u8 0, .int .i64 0, .int .i64 0, .int .i64 0, .int .i64 0, .slice none 0 0, .int .i64 0, .int .u8 0, .int .u8 0, .int .u8 0, .int .u8 0, .int .i64 0, .int .i64 0, .int .i64 0, .int .i64 0, .slice none 0 0, .int .i64 0, .int .i64 0, .int .i64 0, .slice none 0 0, .int .i64 0, .int .i64 0, .int .i64 0], .struct [(0, 10, true), (10, 10, true), (20, 1, false), (21, 1, false), (22, 1, false), (23, 2, true), (25, 1, false), (26, 1, false)]⟩
theorem td72_ok : tdOf Tryz.prog 72 = some td72 := by kernel_rfl
def td73 : TD := ⟨27, [.int .i64 0, .int .u8 0, .int .u8 0, .int .u8 0, .int .u8 0, .int .i64 0, .int .i64 0, .int .i64 0, .int .i64 0, .slice none 0 0, .int .i64 0, .int .u8 0, .int .u8 0, .int .u8 0, .int .u8 0, .int .i64 0, .int .i64 0, .int .i64 0, .int .i64 0, .slice none 0 0, .int .i64 0, .int .i64 0, .int .i64 0, .slice none 0 0, .int .i64 0, .int .i64 0, .int .i64 0], .struct [(0, 10, true), (10, 10, true), (20, 1, false), (21, 1, false), (22, 1, false), (23, 2, true), (25, 1, false), (26, 1, false)]⟩
theorem td73_ok : tdOf Tryz.prog 73 = some td73 := by kernel_rfl
def td74 : TD := ⟨1, [.slice none 0 0], .slice 81 7⟩
theorem td74_ok : tdOf Tryz.prog 74 = some td74 := by kernel_rfl
def td75 : TD := ⟨34, [.int .i64 0, .int .i64 0, .int .i64 0, .int .i64 0, .int .i64 0, .int .i64 0, .int .i64 0, .int .u8 0, .int .u8 0, .int .u8 0, .int .u8 0, .int .i64 0, .int .i64 0, .int .i64 0, .int .i64 0, .slice none 0 0, .int .i64 0, .int .u8 0, .int .u8 0, .int .u8 0, .int .u8 0, .int .i64 0, .int .i64 0, .int .i64 0, .int .i64 0, .slice none 0 0, .int .i64 0, .int .i64 0, .int .i64 0, .slice none 0 0, .int .i64 0, .int .i64 0, .int .i64 0, .slice none 0 0], .struct [(0, 6, true), (6, 27, true), (33, 1, false)]⟩
theorem td75_ok : tdOf Tryz.prog 75 = some td75 := by kernel_rfl
def td76 : TD := ⟨34, [.int .i64 0, .int .i64 0, .int .i64 0, .int .i64 0, .int .i64 0, .int .i64 0, .int .i64 0, .int .u8 0, .int .u8 0, .int .u8 0, .int .u8 0, .int .i64 0, .int .i64 0, .int .i64 0, .int .i64 0, .slice none 0 0, .int .i64 0, .int .u8 0, .int .u8 0, .int .u8 0, .int .u8 0, .int .i64 0, .int .i64 0, .int .i64 0, .int .i64 0, .slice none 0 0, .int .i64 0, .int .i64 0, .int .i64 0, .slice none 0 0, .int .i64 0, .int .i64 0, .int .i64 0, .slice none 0 0], .struct [(0, 6, true), (6, 27, true), (33, 1, false)]⟩
theorem td76_ok : tdOf Tryz.prog 76 = some td76 := by kernel_rfl
def td78 : TD := ⟨1, [.nilFunc], .other⟩
theorem td78_ok : tdOf Tryz.prog 78 = some td78 := by kernel_rfl
def td79 : TD := ⟨6, [.int .i64 0, .int .i64 0, .int .i64 0, .int .i64 0, .int .i64 0, .int .i64 0], .arr 3 2 true⟩
theorem td79_ok : tdOf Tryz.prog 79 = some td79 := by kernel_rfl
def td80 : TD := ⟨7, [.int .i64 0, .int .i64 0, .int .i64 0, .int .i64 0, .int .i64 0, .int .i64 0, .int .i64 0], .struct [(0, 1, false), (1, 6, true)]⟩
theorem td80_ok : tdOf Tryz.prog 80 = some td80 := by kernel_rfl
def td81 : TD := ⟨7, [.int .i64 0, .int .i64 0, .int .i64 0, .int .i64 0, .int .i64 0, .int .i64 0, .int .i64 0], .struct [(0, 1, false), (1, 6, true)]⟩
theorem td81_ok : tdOf Tryz.prog 81 = some td81 := by kernel_rfl
def td82 : TD := ⟨51, [.int .i64 0, .int .i64 0, .int .i64 0, .int .i64 0, .int .i64 0, .int .i64 0, .int .i64 0, .slice none 0 0, .int .i64 0, .int .i64 0, .int .i64 0, .int .i64 0, .int .i64 0, .int .i64 0, .int .i64 0, .int .u8 0, .int .u8 0, .int .u8 0, .int .u8 0, .int .i64 0, .int .i64 0, .int .i64 0, .int .i64 0, .slice none 0 0, .int .i64 0, .int .u8 0, .int .u8 0, .int .u8 0, .int .u8 0, .int .i64 0, .int .i64 0, .int .i64 0, .int .i64 0, .slice none 0 0, .int .i64 0, .int .i64 0, .int .i64 0, .slice none 0 0, .int .i64 0, .int .i64 0, .int .i64 0, .slice none 0 0, .int .i64 0, .int .i64 0, .int .i64 0, .int .i64 0, .int .i64 0, .int .i64 0, .int .i64 0, .int .i64 0, .int .i64 0], .struct [(0, 1, false), (1, 1, false), (2, 1, false), (3, 1, false), (4, 1, false), (5, 1, false), (6, 1, false), (7, 1, false), (8, 34, true), (42, 7, true), (49, 2, true)]⟩
theorem td82_ok : tdOf Tryz.prog 82 = some td82 := by kernel_rfl
def td83 : TD := ⟨51, [.int .i64 0, .int .i64 0, .int .i64 0, .int .i64 0, .int .i64 0, .int .i64 0, .int .i64 0, .slice none 0 0, .int .i64 0, .int .i64 0, .int .i64 0, .int .i64 0, .int .i64 0, .int .i64 0, .int .i64 0, .int .u8 0, .int .u8 0, .int .u8 0, .int .u8 0, .int .i64 0, .int .i64 0, .int .i64 0, .int .i64 0, .slice none 0 0, .int .i64 0, .int .u8 0, .int .u8 0, .int .u8 0, .int .u8 0, .int .i64 0, .int .i64 0, .int .i64 0, .int .i64 0, .slice none 0 0, .int .i64 0, .int .i64 0, .int .i64 0, .slice none 0 0, .int .i64 0, .int .i64 0, .int .i64 0, .slice none 0 0, .int .i64 0, .int .i64 0, .int .i64 0, .int .i64 0, .int .i64 0, .int .i64 0, .int .i64 0, .int .i64 0, .int .i64 0], .struct [(0, 1, false), (1, 1, false), (2, 1, false), (3, 1, false), (4, 1, false), (5, 1, false), (6, 1, false), (7, 1, false), (8, 34, true), (42, 7, true), (49, 2, true)]⟩
theorem td83_ok : tdOf Tryz.prog 83 = some td83 := by kernel_rfl
def td84 : TD := ⟨1, [.nilFunc], .other⟩
theorem td84_ok : tdOf Tryz.prog 84 = some td84 := by kernel_rfl
def td85 : TD := ⟨1, [.nilFunc], .other⟩
theorem td85_ok : tdOf Tryz.prog 85 = some td85 := by kernel_rfl
def td87 : TD := ⟨1, [.nilFunc], .other⟩
theorem td87_ok : tdOf Tryz.prog 87 = some td87 := by kernel_rfl
def td88 : TD := ⟨7, [.int .i64 0, .int .i64 0, .int .i64 0, .int .i64 0, .int .i64 0, .int .i64 0, .int .i64 0], .struct [(0, 1, false), (1, 1, false), (2, 1, false), (3, 1, false), (4, 1, false), (5, 2, true)]⟩
theorem td88_ok : tdOf Tryz.prog 88 = some td88 := by kernel_rfl
def td89 : TD := ⟨7, [.int .i64 0, .int .i64 0, .int .i64 0, .int .i64 0, .int .i64 0, .int .i64 0, .int .i64 0], .struct [(0, 1, false), (1, 1, false), (2, 1, false), (3, 1, false), (4, 1, false), (5, 2, true)]⟩
theorem td89_ok : tdOf Tryz.prog 89 = some td89 := by kernel_rfl
def td90 : TD := ⟨1, [.pointer none], .ptr⟩
theorem td90_ok : tdOf Tryz.prog 90 = some td90 := by kernel_rfl
def td91 : TD := ⟨1, [.nilFunc], .other⟩
theorem td91_ok : tdOf Tryz.prog 91 = some td91 := by kernel_rfl
def td92 : TD := ⟨1, [.nilFunc], .other⟩
theorem td92_ok : tdOf Tryz.prog 92 = some td92 := by kernel_rfl
def td93 : TD := ⟨1, [.nilFunc], .other⟩
theorem td93_ok : tdOf Tryz.prog 93 = some td93 := by kernel_rfl
def td95 : TD := ⟨1, [.nilFunc], .other⟩
theorem td95_ok : tdOf Tryz.prog 95 = some td95 := by kernel_rfl
def td96 : TD := ⟨1, [.nilFunc], .other⟩
theorem td96_ok : tdOf Tryz.prog 96 = some td96 := by kernel_rfl
def td97 : TD := ⟨1, [.nilFunc], .other⟩
theorem td97_ok : tdOf Tryz.prog 97 = some td97 := by kernel_rfl
def td98 : TD := ⟨37, [.int .i64 0, .bool false, .int .i64 0, .int .i64 0, .int .i64 0, .int .i64 0, .int .i64 0, .int .i64 0, .int .i64 0, .int .i64 0, .int .u8 0, .int .u8 0, .int .u8 0, .int .u8 0, .int .i64 0, .int .i64 0, .int .i64 0, .int .i64 0, .slice none 0 0, .int .i64 0, .int .u8 0, .int .u8 0, .int .u8 0, .int .u8 0, .int .i64 0, .int .i64 0, .int .i64 0, .int .i64 0, .slice none 0 0, .int .i64 0, .int .i64 0, .int .i64 0, .slice none 0 0, .int .i64 0, .int .i64 0, .int .i64 0, .slice none 0 0], .struct [(0, 1, false), (1, 1, false), (2, 1, false), (3, 34, true)]⟩
theorem td98_ok : tdOf Tryz.prog 98 = some td98 := by kernel_rfl
def td99 : TD := ⟨37, [.int .i64 0, .bool false, .int .i64 0, .int .i64 0, .int .i64 0, .int .i64 0, .int .i64 0, .int .i64 0, .int .i64 0, .int .i64 0, .int .u8 0, .int .u8 0, .int .u8 0, .int .u8 0, .int .i64 0, .int .i64 0, .int .i64 0, .int .i64 0, .slice none 0 0, .int .i64 0, .int .u8 0, .int .u8 0, .int .u8 0, .int .u8 0, .int .i64 0, .int .i64 0, .int .i64 0, .int .i64 0, .slice none 0 0, .int .i64 0, .int .i64 0, .int .i64 0, .slice none 0 0, .int .i64 0, .int .i64 0, .int .i64 0, .slice none 0 0], .struct [(0, 1, false), (1, 1, false), (2, 1, false), (3, 34, true)]⟩
theorem td99_ok : tdOf Tryz.prog 99 = some td99 := by kernel_rfl
def td100 : TD := ⟨1, [.nilFunc], .other⟩
theorem td100_ok : tdOf Tryz.prog 100 = some td100 := by kernel_rfl
def td102 : TD := ⟨1, [.nilFunc], .other⟩
theorem td102_ok : tdOf Tryz.prog 102 = some td102 := by kernel_rfl
def td104 : TD := ⟨1, [.nilFunc], .other⟩
theorem td104_ok : tdOf Tryz.prog 104 = some td104 := by kernel_rfl
def td105 : TD := ⟨1, [.map none], .map 3 76⟩
theorem td105_ok : tdOf Tryz.prog 105 = some td105 := by kernel_rfl
def td106 : TD := ⟨3, [.pointer none, .map none, .int .i64 0], .struct [(0, 1, false), (1, 1, false), (2, 1, false)]⟩
theorem td106_ok : tdOf Tryz.prog 106 = some td106 := by kernel_rfl
def td107 : TD := ⟨3, [.pointer none, .map none, .int .i64 0], .struct [(0, 1, false), (1, 1, false), (2, 1, false)]⟩
theorem td107_ok : tdOf Tryz.prog 107 = some td107 := by kernel_rfl
def td108 : TD := ⟨1, [.nilFunc], .other⟩
theorem td108_ok : tdOf Tryz.prog 108 = some td108 := by kernel_rfl
def td109 : TD := ⟨1, [.nilFunc], .other⟩
theorem td109_ok : tdOf Tryz.prog 109 = some td109 := by kernel_rfl
def td111 : TD := ⟨1, [.nilFunc], .other⟩
theorem td111_ok : tdOf Tryz.prog 111 = some td111 := by kernel_rfl
def td112 : TD := ⟨1, [.nilFunc], .other⟩
theorem td112_ok : tdOf Tryz.prog 112 = some td112 := by kernel_rfl
def td113 : TD := ⟨1, [.nilFunc], .other⟩
theorem td113_ok : tdOf Tryz.prog 113 = some td113 := by kernel_rfl
def td114 : TD := ⟨1, [.slice none 0 0], .slice 26 2⟩
theorem td114_ok : tdOf Tryz.prog 114 = some td114 := by kernel_rfl
def td115 : TD := ⟨1, [.nilFunc], .other⟩
theorem td115_ok : tdOf Tryz.prog 115 = some td115 := by kernel_rfl
def td116 : TD := ⟨1, [.nilFunc], .other⟩
theorem td116_ok : tdOf Tryz.prog 116 = some td116 := by kernel_rfl
def td117 : TD := ⟨1, [.nilFunc], .other⟩
theorem td117_ok : tdOf Tryz.prog 117 = some td117 := by kernel_rfl
def td118 : TD := ⟨1, [.nilFunc], .other⟩
theorem td118_ok : tdOf Tryz.prog 118 = some td118 := by kernel_rfl
def td119 : TD := ⟨1, [.nilFunc], .other⟩
theorem td119_ok : tdOf Tryz.prog 119 = some td119 := by kernel_rfl
def td120 : TD := ⟨1, [.nilFunc], .other⟩
theorem td120_ok : tdOf Tryz.prog 120 = some td120 := by kernel_rfl
def td122 : TD := ⟨1, [.nilFunc], .other⟩
theorem td122_ok : tdOf Tryz.prog 122 = some td122 := by kernel_rfl
def td124 : TD := ⟨1, [.nilFunc], .other⟩
theorem td124_ok : tdOf Tryz.prog 124 = some td124 := by kernel_rfl
def td125 : TD := ⟨1, [.nilFunc], .other⟩
theorem td125_ok : tdOf Tryz.prog 125 = some td125 := by kernel_rfl
def td126 : TD := ⟨1, [.nilFunc], .other⟩
theorem td126_ok : tdOf Tryz.prog 126 = some td126 := by kernel_rfl
def td127 : TD := ⟨1, [.nilFunc], .other⟩
theorem td127_ok : tdOf Tryz.prog 127 = some td127 := by kernel_rfl
def td128 : TD := ⟨1, [.nilFunc], .other⟩
theorem td128_ok : tdOf Tryz.prog 128 = some td128 := by kernel_rfl
def td129 : TD := ⟨4, [.int .i64 0, .bool false, .int .i64 0, .slice none 0 0], .struct [(0, 1, false), (1, 1, false), (2, 1, false), (3, 1, false)]⟩
theorem td129_ok : tdOf Tryz.prog 129 = some td129 := by kernel_rfl
def td130 : TD := ⟨4, [.int .i64 0, .bool false, .int .i64 0, .slice none 0 0], .struct [(0, 1, false), (1, 1, false), (2, 1, false), (3, 1, false)]⟩
theorem td130_ok : tdOf Tryz.prog 130 = some td130 := by kernel_rfl
def td131 : TD := ⟨1, [.slice none 0 0], .slice 130 4⟩
theorem td131_ok : tdOf Tryz.prog 131 = some td131 := by kernel_rfl
def td132 : TD := ⟨1, [.map none], .map 3 3⟩
theorem td132_ok : tdOf Tryz.prog 132 = some td132 := by kernel_rfl
def td133 : TD := ⟨3, [.slice none 0 0, .slice none 0 0, .map none], .struct [(0, 1, false), (1, 1, false), (2, 1, false)]⟩
theorem td133_ok : tdOf Tryz.prog 133 = some td133 := by kernel_rfl
def td134 : TD := ⟨3, [.slice none 0 0, .slice none 0 0, .map none], .struct [(0, 1, false), (1, 1, false), (2, 1, false)]⟩
theorem td134_ok : tdOf Tryz.prog 134 = some td134 := by kernel_rfl
def td135 : TD := ⟨1, [.nilFunc], .other⟩
theorem td135_ok : tdOf Tryz.prog 135 = some td135 := by kernel_rfl
def td136 : TD := ⟨1, [.pointer none], .ptr⟩
theorem td136_ok : tdOf Tryz.prog 136 = some td136 := by kernel_rfl
def td137 : TD := ⟨1, [.nilFunc], .other⟩
theorem td137_ok : tdOf Tryz.prog 137 = some td137 := by kernel_rfl
def td138 : TD := ⟨1, [.nilFunc], .other⟩
theorem td138_ok : tdOf Tryz.prog 138 = some td138 := by kernel_rfl
def td139 : TD := ⟨8, [.int .i64 0, .int .i64 0, .int .i64 0, .int .i64 0, .int .i64 0, .pointer none, .pointer none, .int .i64 0], .struct [(0, 1, false), (1, 1, false), (2, 2, true), (4, 1, false), (5, 1, false), (6, 1, false), (7, 1, false)]⟩
theorem td139_ok : tdOf Tryz.prog 139 = some td139 := by kernel_rfl
def td140 : TD := ⟨8, [.int .i64 0, .int .i64 0, .int .i64 0, .int .i64 0, .int .i64 0, .pointer none, .pointer none, .int .i64 0], .struct [(0, 1, false), (1, 1, false), (2, 2, true), (4, 1, false), (5, 1, false), (6, 1, false), (7, 1, false)]⟩
theorem td140_ok : tdOf Tryz.prog 140 = some td140 := by kernel_rfl
def td141 : TD := ⟨1, [.slice none 0 0], .slice 43 4⟩
theorem td141_ok : tdOf Tryz.prog 141 = some td141 := by kernel_rfl
def td142 : TD := ⟨3, [.int .i64 0, .int .i64 0, .slice none 0 0], .struct [(0, 1, false), (1, 1, false), (2, 1, false)]⟩
theorem td142_ok : tdOf Tryz.prog 142 = some td142 := by kernel_rfl
def td143 : TD := ⟨3, [.int .i64 0, .int .i64 0, .slice none 0 0], .struct [(0, 1, false), (1, 1, false), (2, 1, false)]⟩
theorem td143_ok : tdOf Tryz.prog 143 = some td143 := by kernel_rfl
def td144 : TD := ⟨1, [.nilFunc], .other⟩
theorem td144_ok : tdOf Tryz.prog 144 = some td144 := by kernel_rfl
def td145 : TD := ⟨1, [.nilFunc], .other⟩
theorem td145_ok : tdOf Tryz.prog 145 = some td145 := by kernel_rfl
def td146 : TD := ⟨1, [.nilFunc], .other⟩
theorem td146_ok : tdOf Tryz.prog 146 = some td146 := by kernel_rfl
def td147 : TD := ⟨1, [.nilFunc], .other⟩
theorem td147_ok : tdOf Tryz.prog 147 = some td147 := by kernel_rfl
def td148 : TD := ⟨1, [.nilFunc], .other⟩
theorem td148_ok : tdOf Tryz.prog 148 = some td148 := by kernel_rfl
def td150 : TD := ⟨1, [.nilFunc], .other⟩
theorem td150_ok : tdOf Tryz.prog 150 = some td150 := by kernel_rfl
def td152 : TD := ⟨1, [.nilFunc], .other⟩
theorem td152_ok : tdOf Tryz.prog 152 = some td152 := by kernel_rfl
def td154 : TD := ⟨1, [.nilFunc], .other⟩
theorem td154_ok : tdOf Tryz.prog 154 = some td154 := by kernel_rfl
def td155 : TD := ⟨1, [.nilFunc], .other⟩
theorem td155_ok : tdOf Tryz.prog 155 = some td155 := by kernel_rfl
def td156 : TD := ⟨1, [.nilFunc], .other⟩
theorem td156_ok : tdOf Tryz.prog 156 = some td156 := by kernel_rfl
def td157 : TD := ⟨1, [.nilFunc], .other⟩
theorem td157_ok : tdOf Tryz.prog 157 = some td157 := by kernel_rfl
def td158 : TD := ⟨1, [.nilFunc], .other⟩
theorem td158_ok : tdOf Tryz.prog 158 = some td158 := by kernel_rfl
def td159 : TD := ⟨1, [.nilFunc], .other⟩
theorem td159_ok : tdOf Tryz.prog 159 = some td159 := by kernel_rfl
def td160 : TD := ⟨1, [.nilFunc], .other⟩
theorem td160_ok : tdOf Tryz.prog 160 = some td160 := by kernel_rfl
def td161 : TD := ⟨1, [.pointer none], .ptr⟩
theorem td161_ok : tdOf Tryz.prog 161 = some td161 := by kernel_rfl
def td162 : TD := ⟨1, [.nilFunc], .other⟩
theorem td162_ok : tdOf Tryz.prog 162 = some td162 := by kernel_rfl
def td163 : TD := ⟨4, [.int .i64 0, .int .i64 0, .int .i64 0, .int .i64 0], .arr 4 1 false⟩
theorem td163_ok : tdOf Tryz.prog 163 = some td163 := by kernel_rfl
def td164 : TD := ⟨1, [.nilFunc], .other⟩
theorem td164_ok : tdOf Tryz.prog 164 = some td164 := by kernel_rfl
def td165 : TD := ⟨1, [.nilFunc], .other⟩
theorem td165_ok : tdOf Tryz.prog 165 = some td165 := by kernel_rfl
def td166 : TD := ⟨1, [.nilFunc], .other⟩
theorem td166_ok : tdOf Tryz.prog 166 = some td166 := by kernel_rfl
def td167 : TD := ⟨1, [.pointer none], .ptr⟩
theorem td167_ok : tdOf Tryz.prog 167 = some td167 := by kernel_rfl
def td168 : TD := ⟨1, [.slice none 0 0], .slice 167 1⟩
theorem td168_ok : tdOf Tryz.prog 168 = some td168 := by kernel_rfl
def td169 : TD := ⟨1, [.nilFunc], .other⟩
theorem td169_ok : tdOf Tryz.prog 169 = some td169 := by kernel_rfl
def td170 : TD := ⟨5, [.int .i64 0, .int .u8 0, .int .u8 0, .int .u8 0, .int .u8 0], .struct [(0, 1, false), (1, 4, true)]⟩
theorem td170_ok : tdOf Tryz.prog 170 = some td170 := by kernel_rfl
def td171 : TD := ⟨5, [.int .i64 0, .int .u8 0, .int .u8 0, .int .u8 0, .int .u8 0], .struct [(0, 1, false), (1, 4, true)]⟩
theorem td171_ok : tdOf Tryz.prog 171 = some td171 := by kernel_rfl
def td172 : TD := ⟨1, [.nilFunc], .other⟩
theorem td172_ok : tdOf Tryz.prog 172 = some td172 := by kernel_rfl
def td173 : TD := ⟨1, [.nilFunc], .other⟩
theorem td173_ok : tdOf Tryz.prog 173 = some td173 := by kernel_rfl
def td175 : TD := ⟨1, [.nilFunc], .other⟩
theorem td175_ok : tdOf Tryz.prog 175 = some td175 := by kernel_rfl
def td176 : TD := ⟨1, [.nilFunc], .other⟩
theorem td176_ok : tdOf Tryz.prog 176 = some td176 := by kernel_rfl
def td178 : TD := ⟨1, [.nilFunc], .other⟩
theorem td178_ok : tdOf Tryz.prog 178 = some td178 := by kernel_rfl
def td179 : TD := ⟨1, [.nilFunc], .other⟩
theorem td179_ok : tdOf Tryz.prog 179 = some td179 := by kernel_rfl
def td180 : TD := ⟨1, [.nilFunc], .other⟩
theorem td180_ok : tdOf Tryz.prog 180 = some td180 := by kernel_rfl
def td181 : TD := ⟨1, [.nilFunc], .other⟩
theorem td181_ok : tdOf Tryz.prog 181 = some td181 := by kernel_rfl
def td183 : TD := ⟨1, [.nilFunc], .other⟩
theorem td183_ok : tdOf Tryz.prog 183 = some td183 := by kernel_rfl
def td185 : TD := ⟨1, [.nilFunc], .other⟩
theorem td185_ok : tdOf Tryz.prog 185 = some td185 := by kernel_rfl
def td186 : TD := ⟨1, [.map none], .map 194 143⟩
theorem td186_ok : tdOf Tryz.prog 186 = some td186 := by kernel_rfl
def td187 : TD := ⟨1, [.slice none 0 0], .slice 194 2⟩
theorem td187_ok : tdOf Tryz.prog 187 = some td187 := by kernel_rfl
def td188 : TD := ⟨3, [.int .i64 0, .map none, .slice none 0 0], .struct [(0, 1, false), (1, 1, false), (2, 1, false)]⟩
theorem td188_ok : tdOf Tryz.prog 188 = some td188 := by kernel_rfl
def td189 : TD := ⟨3, [.int .i64 0, .map none, .slice none 0 0], .struct [(0, 1, false), (1, 1, false), (2, 1, false)]⟩
theorem td189_ok : tdOf Tryz.prog 189 = some td189 := by kernel_rfl
def td190 : TD := ⟨1, [.nilFunc], .other⟩
theorem td190_ok : tdOf Tryz.prog 190 = some td190 := by kernel_rfl
def td191 : TD := ⟨1, [.nilFunc], .other⟩
theorem td191_ok : tdOf Tryz.prog 191 = some td191 := by kernel_rfl
def td192 : TD := ⟨1, [.nilFunc], .other⟩
theorem td192_ok : tdOf Tryz.prog 192 = some td192 := by kernel_rfl
def td193 : TD := ⟨1, [.nilFunc], .other⟩
theorem td193_ok : tdOf Tryz.prog 193 = some td193 := by kernel_rfl
def td194 : TD := ⟨2, [.int .i64 0, .int .i64 0], .struct [(0, 1, false), (1, 1, false)]⟩
theorem td194_ok : tdOf Tryz.prog 194 = some td194 := by kernel_rfl
def td196 : TD := ⟨1, [.nilFunc], .other⟩
theorem td196_ok : tdOf Tryz.prog 196 = some td196 := by kernel_rfl
def td198 : TD := ⟨1, [.nilFunc], .other⟩
theorem td198_ok : tdOf Tryz.prog 198 = some td198 := by kernel_rfl
def td199 : TD := ⟨1, [.nilFunc], .other⟩
theorem td199_ok : tdOf Tryz.prog 199 = some td199 := by kernel_rfl
def td200 : TD := ⟨1, [.nilFunc], .other⟩
theorem td200_ok : tdOf Tryz.prog 200 = some td200 := by kernel_rfl
def td201 : TD := ⟨1, [.nilFunc], .other⟩
theorem td201_ok : tdOf Tryz.prog 201 = some td201 := by kernel_rfl
def td203 : TD := ⟨1, [.nilFunc], .other⟩
theorem td203_ok : tdOf Tryz.prog 203 = some td203 := by kernel_rfl
def td204 : TD := ⟨1, [.nilFunc], .other⟩
theorem td204_ok : tdOf Tryz.prog 204 = some td204 := by kernel_rfl
def td205 : TD := ⟨1, [.nilFunc], .other⟩
theorem td205_ok : tdOf Tryz.prog 205 = some td205 := by kernel_rfl
def td206 : TD := ⟨1, [.slice none 0 0], .slice 211 2⟩
theorem td206_ok : tdOf Tryz.prog 206 = some td206 := by kernel_rfl
def td208 : TD := ⟨1, [.nilFunc], .other⟩
theorem td208_ok : tdOf Tryz.prog 208 = some td208 := by kernel_rfl
def td209 : TD := ⟨1, [.nilFunc], .other⟩
theorem td209_ok : tdOf Tryz.prog 209 = some td209 := by kernel_rfl
def td210 : TD := ⟨2, [.slice none 0 0, .bool false], .struct [(0, 1, false), (1, 1, false)]⟩
theorem td210_ok : tdOf Tryz.prog 210 = some td210 := by kernel_rfl
def td211 : TD := ⟨2, [.slice none 0 0, .bool false], .struct [(0, 1, false), (1, 1, false)]⟩
theorem td211_ok : tdOf Tryz.prog 211 = some td211 := by kernel_rfl
def td213 : TD := ⟨1, [.nilFunc], .other⟩
theorem td213_ok : tdOf Tryz.prog 213 = some td213 := by kernel_rfl
def td214 : TD := ⟨1, [.nilFunc], .other⟩
theorem td214_ok : tdOf Tryz.prog 214 = some td214 := by kernel_rfl
def td215 : TD := ⟨1, [.int .u64 0], .int .u64⟩
theorem td215_ok : tdOf Tryz.prog 215 = some td215 := by kernel_rfl
def td216 : TD := ⟨2, [.int .i64 0, .int .u64 0], .struct [(0, 1, false), (1, 1, false)]⟩
theorem td216_ok : tdOf Tryz.prog 216 = some td216 := by kernel_rfl
def td217 : TD := ⟨2, [.int .i64 0, .int .u64 0], .struct [(0, 1, false), (1, 1, false)]⟩
theorem td217_ok : tdOf Tryz.prog 217 = some td217 := by kernel_rfl
def td218 : TD := ⟨1, [.nilFunc], .other⟩
theorem td218_ok : tdOf Tryz.prog 218 = some td218 := by kernel_rfl
def td219 : TD := ⟨1, [.nilFunc], .other⟩
theorem td219_ok : tdOf Tryz.prog 219 = some td219 := by kernel_rfl
def td220 : TD := ⟨1, [.nilFunc], .other⟩
theorem td220_ok : tdOf Tryz.prog 220 = some td220 := by kernel_rfl
def td221 : TD := ⟨1, [.nilFunc], .other⟩
theorem td221_ok : tdOf Tryz.prog 221 = some td221 := by kernel_rfl
def td222 : TD := ⟨1, [.nilFunc], .other⟩
theorem td222_ok : tdOf Tryz.prog 222 = some td222 := by kernel_rfl
def td223 : TD := ⟨1, [.nilFunc], .other⟩
theorem td223_ok : tdOf Tryz.prog 223 = some td223 := by kernel_rfl
def td224 : TD := ⟨1, [.nilFunc], .other⟩
theorem td224_ok : tdOf Tryz.prog 224 = some td224 := by kernel_rfl
def td225 : TD := ⟨1, [.nilFunc], .other⟩
theorem td225_ok : tdOf Tryz.prog 225 = some td225 := by kernel_rfl
def td226 : TD := ⟨1, [.nilFunc], .other⟩
theorem td226_ok : tdOf Tryz.prog 226 = some td226 := by kernel_rfl
def td227 : TD := ⟨1, [.nilFunc], .other⟩
theorem td227_ok : tdOf Tryz.prog 227 = some td227 := by kernel_rfl
def td229 : TD := ⟨1, [.nilFunc], .other⟩
theorem td229_ok : tdOf Tryz.prog 229 = some td229 := by kernel_rfl
def td230 : TD := ⟨1, [.nilFunc], .other⟩
theorem td230_ok : tdOf Tryz.prog 230 = some td230 := by kernel_rfl
def td231 : TD := ⟨1, [.nilFunc], .other⟩
theorem td231_ok : tdOf Tryz.prog 231 = some td231 := by kernel_rfl
def td232 : TD := ⟨1, [.nilFunc], .other⟩
theorem td232_ok : tdOf Tryz.prog 232 = some td232 := by kernel_rfl
def td233 : TD := ⟨1, [.nilFunc], .other⟩
theorem td233_ok : tdOf Tryz.prog 233 = some td233 := by kernel_rfl
def td234 : TD := ⟨1, [.slice none 0 0], .slice 238 36⟩
theorem td234_ok : tdOf Tryz.prog 234 = some td234 := by kernel_rfl
def td235 : TD := ⟨1, [.nilFunc], .other⟩
theorem td235_ok : tdOf Tryz.prog 235 = some td235 := by kernel_rfl
def td236 : TD := ⟨1, [.slice none 0 0], .slice 296 34⟩
theorem td236_ok : tdOf Tryz.prog 236 = some td236 := by kernel_rfl
def td237 : TD := ⟨36, [.int .i64 0, .int .i64 0, .int .i64 0, .int .i64 0, .int .i64 0, .int .i64 0, .int .i64 0, .int .i64 0, .int .u8 0, .int .u8 0, .int .u8 0, .int .u8 0, .int .i64 0, .int .i64 0, .int .i64 0, .int .i64 0, .slice none 0 0, .int .i64 0, .int .u8 0, .int .u8 0, .int .u8 0, .int .u8 0, .int .i64 0, .int .i64 0, .int .i64 0, .int .i64 0, .slice none 0 0, .int .i64 0, .int .i64 0, .int .i64 0, .slice none 0 0, .int .i64 0, .int .i64 0, .int .i64 0, .slice none 0 0, .slice none 0 0], .struct [(0, 1, false), (1, 34, true), (35, 1, false)]⟩
theorem td237_ok : tdOf Tryz.prog 237 = some td237 := by kernel_rfl
def td238 : TD := ⟨36, [.int .i64 0, .int .i64 0, .int .i64 0, .int .i64 0, .int .i64 0, .int .i64 0, .int .i64 0, .int .i64 0, .int .u8 0, .int .u8 0, .int .u8 0, .int .u8 0, .int .i64 0, .int .i64 0, .int .i64 0, .int .i64 0, .slice none 0 0, .int .i64 0, .int .u8 0, .int .u8 0, .int .u8 0, .int .u8 0, .int .i64 0, .int .i64 0, .int .i64 0, .int .i64 0, .slice none 0 0, .int .i64 0, .int .i64 0, .int .i64 0, .slice none 0 0, .int .i64 0, .int .i64 0, .int .i64 0, .slice none 0 0, .slice none 0 0], .struct [(0, 1, false), (1, 34, true), (35, 1, false)]⟩
theorem td238_ok : tdOf Tryz.prog 238 = some td238 := by kernel_rfl
def td239 : TD := ⟨1, [.nilFunc], .other⟩
theorem td239_ok : tdOf Tryz.prog 239 = some td239 := by kernel_rfl
def td240 : TD := ⟨1, [.nilFunc], .other⟩
theorem td240_ok : tdOf Tryz.prog 240 = some td240 := by kernel_rfl
def td241 : TD := ⟨1, [.nilFunc], .other⟩
theorem td241_ok : tdOf Tryz.prog 241 = some td241 := by kernel_rfl
def td242 : TD := ⟨1, [.nilFunc], .other⟩
theorem td242_ok : tdOf Tryz.prog 242 = some td242 := by kernel_rfl
def td243 : TD := ⟨1, [.int .u64 0], .int .u64⟩
theorem td243_ok : tdOf Tryz.prog 243 = some td243 := by kernel_rfl
def td244 : TD := ⟨1, [.nilFunc], .other⟩
theorem td244_ok : tdOf Tryz.prog 244 = some td244 := by kernel_rfl
def td245 : TD := ⟨1, [.pointer none], .ptr⟩
theorem td245_ok : tdOf Tryz.prog 245 = some td245 := by kernel_rfl
def td246 : TD := ⟨5, [.pointer none, .int .i64 0, .int .i64 0, .int .i64 0, .int .i64 0], .struct [(0, 1, false), (1, 4, true)]⟩
theorem td246_ok : tdOf Tryz.prog 246 = some td246 := by kernel_rfl
def td247 : TD := ⟨5, [.pointer none, .int .i64 0, .int .i64 0, .int .i64 0, .int .i64 0], .struct [(0, 1, false), (1, 4, true)]⟩
theorem td247_ok : tdOf Tryz.prog 247 = some td247 := by kernel_rfl
def td248 : TD := ⟨1, [.nilFunc], .other⟩
theorem td248_ok : tdOf Tryz.prog 248 = some td248 := by kernel_rfl
def td249 : TD := ⟨1, [.nilFunc], .other⟩
theorem td249_ok : tdOf Tryz.prog 249 = some td249 := by kernel_rfl
def td250 : TD := ⟨1, [.nilFunc], .other⟩
theorem td250_ok : tdOf Tryz.prog 250 = some td250 := by kernel_rfl
def td252 : TD := ⟨1, [.nilFunc], .other⟩
theorem td252_ok : tdOf Tryz.prog 252 = some td252 := by kernel_rfl
def td254 : TD := ⟨1, [.nilFunc], .other⟩
theorem td254_ok : tdOf Tryz.prog 254 = some td254 := by kernel_rfl
def td255 : TD := ⟨1, [.nilFunc], .other⟩
theorem td255_ok : tdOf Tryz.prog 255 = some td255 := by kernel_rfl
def td256 : TD := ⟨1, [.nilFunc], .other⟩
theorem td256_ok : tdOf Tryz.prog 256 = some td256 := by kernel_rfl
def td257 : TD := ⟨1, [.nilFunc], .other⟩
theorem td257_ok : tdOf Tryz.prog 257 = some td257 := by kernel_rfl
def td258 : TD := ⟨1, [.nilFunc], .other⟩
theorem td258_ok : tdOf Tryz.prog 258 = some td258 := by kernel_rfl
def td259 : TD := ⟨1, [.nilFunc], .other⟩
theorem td259_ok : tdOf Tryz.prog 259 = some td259 := by kernel_rfl
def td260 : TD := ⟨1, [.nilFunc], .other⟩
theorem td260_ok : tdOf Tryz.prog 260 = some td260 := by kernel_rfl
def td261 : TD := ⟨1, [.slice none 0 0], .slice 46 10⟩
theorem td261_ok : tdOf Tryz.prog 261 = some td261 := by kernel_rfl
def td262 : TD := ⟨3, [.int .i64 0, .int .i64 0, .int .i64 0], .struct [(0, 1, false), (1, 1, false), (2, 1, false)]⟩
theorem td262_ok : tdOf Tryz.prog 262 = some td262 := by kernel_rfl
def td263 : TD := ⟨1, [.slice none 0 0], .slice 262 3⟩
theorem td263_ok : tdOf Tryz.prog 263 = some td263 := by kernel_rfl
def td264 : TD := ⟨1, [.nilFunc], .other⟩
theorem td264_ok : tdOf Tryz.prog 264 = some td264 := by kernel_rfl
def td265 : TD := ⟨1, [.nilFunc], .other⟩
theorem td265_ok : tdOf Tryz.prog 265 = some td265 := by kernel_rfl
def td266 : TD := ⟨1, [.nilFunc], .other⟩
theorem td266_ok : tdOf Tryz.prog 266 = some td266 := by kernel_rfl
def td267 : TD := ⟨1, [.pointer none], .ptr⟩
theorem td267_ok : tdOf Tryz.prog 267 = some td267 := by kernel_rfl
def td269 : TD := ⟨1, [.nilFunc], .other⟩
theorem td269_ok : tdOf Tryz.prog 269 = some td269 := by kernel_rfl
def td270 : TD := ⟨1, [.nilFunc], .other⟩
theorem td270_ok : tdOf Tryz.prog 270 = some td270 := by kernel_rfl
def td271 : TD := ⟨1, [.nilFunc], .other⟩
theorem td271_ok : tdOf Tryz.prog 271 = some td271 := by kernel_rfl
def td272 : TD := ⟨1, [.nilFunc], .other⟩
theorem td272_ok : tdOf Tryz.prog 272 = some td272 := by kernel_rfl
def td273 : TD := ⟨1, [.nilFunc], .other⟩
theorem td273_ok : tdOf Tryz.prog 273 = some td273 := by kernel_rfl
def td274 : TD := ⟨1, [.nilFunc], .other⟩
theorem td274_ok : tdOf Tryz.prog 274 = some td274 := by kernel_rfl
def td275 : TD := ⟨1, [.nilFunc], .other⟩
theorem td275_ok : tdOf Tryz.prog 275 = some td275 := by kernel_rfl
def td276 : TD := ⟨1, [.nilFunc], .other⟩
theorem td276_ok : tdOf Tryz.prog 276 = some td276 := by kernel_rfl
def td277 : TD := ⟨1, [.nilFunc], .other⟩
theorem td277_ok : tdOf Tryz.prog 277 = some td277 := by kernel_rfl
def td278 : TD := ⟨1, [.nilFunc], .other⟩
theorem td278_ok : tdOf Tryz.prog 278 = some td278 := by kernel_rfl
def td279 : TD := ⟨1, [.map none], .map 3 4⟩
theorem td279_ok : tdOf Tryz.prog 279 = some td279 := by kernel_rfl
def td280 : TD := ⟨1, [.nilFunc], .other⟩
theorem td280_ok : tdOf Tryz.prog 280 = some td280 := by kernel_rfl
def td281 : TD := ⟨1, [.pointer none], .ptr⟩
theorem td281_ok : tdOf Tryz.prog 281 = some td281 := by kernel_rfl
def td282 : TD := ⟨1, [.nilFunc], .other⟩
theorem td282_ok : tdOf Tryz.prog 282 = some td282 := by kernel_rfl
def td283 : TD := ⟨1, [.nilFunc], .other⟩
theorem td283_ok : tdOf Tryz.prog 283 = some td283 := by kernel_rfl
def td284 : TD := ⟨1, [.nilFunc], .other⟩
theorem td284_ok : tdOf Tryz.prog 284 = some td284 := by kernel_rfl
def td285 : TD := ⟨1, [.nilFunc], .other⟩
theorem td285_ok : tdOf Tryz.prog 285 = some td285 := by kernel_rfl
def td286 : TD := ⟨1, [.nilFunc], .other⟩
theorem td286_ok : tdOf Tryz.prog 286 = some td286 := by kernel_rfl
def td287 : TD := ⟨1, [.nilFunc], .other⟩
theorem td287_ok : tdOf Tryz.prog 287 = some td287 := by kernel_rfl
def td289 : TD := ⟨1, [.nilFunc], .other⟩
theorem td289_ok : tdOf Tryz.prog 289 = some td289 := by kernel_rfl
def td290 : TD := ⟨1, [.nilFunc], .other⟩
theorem td290_ok : tdOf Tryz.prog 290 = some td290 := by kernel_rfl
def td291 : TD := ⟨1, [.nilFunc], .other⟩
theorem td291_ok : tdOf Tryz.prog 291 = some td291 := by kernel_rfl
def td292 : TD := ⟨1, [.nilFunc], .other⟩
theorem td292_ok : tdOf Tryz.prog 292 = some td292 := by kernel_rfl
def td293 : TD := ⟨1, [.nilFunc], .other⟩
theorem td293_ok : tdOf Tryz.prog 293 = some td293 := by kernel_rfl
def td294 : TD := ⟨1, [.nilFunc], .other⟩
theorem td294_ok : tdOf Tryz.prog 294 = some td294 := by kernel_rfl
def td295 : TD := ⟨34, [.int .i64 0, .int .i64 0, .int .i64 0, .int .i64 0, .int .i64 0, .int .i64 0, .int .i64 0, .int .i64 0, .int .u8 0, .int .u8 0, .int .u8 0, .int .u8 0, .int .i64 0, .int .i64 0, .int .i64 0, .int .i64 0, .slice none 0 0, .int .i64 0, .int .u8 0, .int .u8 0, .int .u8 0, .int .u8 0, .int .i64 0, .int .i64 0, .int .i64 0, .int .i64 0, .slice none 0 0, .int .i64 0, .int .i64 0, .int .i64 0, .slice none 0 0, .int .i64 0, .int .i64 0, .int .i64 0], .struct [(0, 1, false), (1, 6, true), (7, 27, true)]⟩
theorem td295_ok : tdOf Tryz.prog 295 = some td295 := by kernel_rfl
def td296 : TD := ⟨34, [.int .i64 0, .int .i64 0, .int .i64 0, .int .i64 0, .int .i64 0, .int .i64 0, .int .i64 0, .int .i64 0, .int .u8 0, .int .u8 0, .int .u8 0, .int .u8 0, .int .i64 0, .int .i64 0, .int .i64 0, .int .i64 0, .slice none 0 0, .int .i64 0, .int .u8 0, .int .u8 0, .int .u8 0, .int .u8 0, .int .i64 0, .int .i64 0, .int .i64 0, .int .i64 0, .slice none 0 0, .int .i64 0, .int .i64 0, .int .i64 0, .slice none 0 0, .int .i64 0, .int .i64 0, .int .i64 0], .struct [(0, 1, false), (1, 6, true), (7, 27, true)]⟩
theorem td296_ok : tdOf Tryz.prog 296 = some td296 := by kernel_rfl
def td297 : TD := ⟨1, [.nilFunc], .other⟩
theorem td297_ok : tdOf Tryz.prog 297 = some td297 := by kernel_rfl
def td298 : TD := ⟨1, [.nilFunc], .other⟩
theorem td298_ok : tdOf Tryz.prog 298 = some td298 := by kernel_rfl
def td299 : TD := ⟨1, [.nilFunc], .other⟩
theorem td299_ok : tdOf Tryz.prog 299 = some td299 := by kernel_rfl
def td300 : TD := ⟨1, [.nilFunc], .other⟩
theorem td300_ok : tdOf Tryz.prog 300 = some td300 := by kernel_rfl
def td301 : TD := ⟨1, [.nilFunc], .other⟩
theorem td301_ok : tdOf Tryz.prog 301 = some td301 := by kernel_rfl
def td302 : TD := ⟨1, [.nilFunc], .other⟩
theorem td302_ok : tdOf Tryz.prog 302 = some td302 := by kernel_rfl
def td303 : TD := ⟨1, [.nilFunc], .other⟩
theorem td303_ok : tdOf Tryz.prog 303 = some td303 := by kernel_rfl
def td304 : TD := ⟨1, [.nilFunc], .other⟩
theorem td304_ok : tdOf Tryz.prog 304 = some td304 := by kernel_rfl
def td305 : TD := ⟨1, [.nilIface], .other⟩
theorem td305_ok : tdOf Tryz.prog 305 = some td305 := by kernel_rfl
def td306 : TD := ⟨1, [.nilIface], .other⟩
theorem td306_ok : tdOf Tryz.prog 306 = some td306 := by kernel_rfl
def td307 : TD := ⟨1, [.nilFunc], .other⟩
theorem td307_ok : tdOf Tryz.prog 307 = some td307 := by kernel_rfl
def td308 : TD := ⟨1, [.nilFunc], .other⟩
theorem td308_ok : tdOf Tryz.prog 308 = some td308 := by kernel_rfl
def td309 : TD := ⟨1, [.nilFunc], .other⟩
theorem td309_ok : tdOf Tryz.prog 309 = some td309 := by kernel_rfl
def td310 : TD := ⟨8, [.int .i64 0, .int .i64 0, .int .i64 0, .int .i64 0, .int .i64 0, .int .i64 0, .int .i64 0, .int .i64 0], .arr 4 2 true⟩
theorem td310_ok : tdOf Tryz.prog 310 = some td310 := by kernel_rfl
def td311 : TD := ⟨9, [.int .i64 0, .int .i64 0, .int .i64 0, .int .i64 0, .int .i64 0, .int .i64 0, .int .i64 0, .int .i64 0, .int .i64 0], .struct [(0, 8, true), (8, 1, false)]⟩
theorem td311_ok : tdOf Tryz.prog 311 = some td311 := by kernel_rfl
def td312 : TD := ⟨9, [.int .i64 0, .int .i64 0, .int .i64 0, .int .i64 0, .int .i64 0, .int .i64 0, .int .i64 0, .int .i64 0, .int .i64 0], .struct [(0, 8, true), (8, 1, false)]⟩
theorem td312_ok : tdOf Tryz.prog 312 = some td312 := by kernel_rfl
def td313 : TD := ⟨1, [.nilFunc], .other⟩
theorem td313_ok : tdOf Tryz.prog 313 = some td313 := by kernel_rfl
def td314 : TD := ⟨10, [.int .i64 0, .int .i64 0, .int .i64 0, .int .i64 0, .int .i64 0, .int .i64 0, .int .i64 0, .int .i64 0, .int .i64 0, .int .i64 0], .struct [(0, 9, true), (9, 1, false)]⟩
theorem td314_ok : tdOf Tryz.prog 314 = some td314 := by kernel_rfl
def td315 : TD := ⟨10, [.int .i64 0, .int .i64 0, .int .i64 0, .int .i64 0, .int .i64 0, .int .i64 0, .int .i64 0, .int .i64 0, .int .i64 0, .int .i64 0], .struct [(0, 9, true), (9, 1, false)]⟩
theorem td315_ok : tdOf Tryz.prog 315 = some td315 := by kernel_rfl
def td316 : TD := ⟨1, [.slice none 0 0], .slice 315 10⟩
theorem td316_ok : tdOf Tryz.prog 316 = some td316 := by kernel_rfl
def td318 : TD := ⟨1, [.nilFunc], .other⟩
theorem td318_ok : tdOf Tryz.prog 318 = some td318 := by kernel_rfl
def td319 : TD := ⟨1, [.pointer none], .ptr⟩
theorem td319_ok : tdOf Tryz.prog 319 = some td319 := by kernel_rfl
def td320 : TD := ⟨1, [.nilFunc], .other⟩
theorem td320_ok : tdOf Tryz.prog 320 = some td320 := by kernel_rfl
def td321 : TD := ⟨1, [.nilFunc], .other⟩
theorem td321_ok : tdOf Tryz.prog 321 = some td321 := by kernel_rfl
def td322 : TD := ⟨1, [.pointer none], .ptr⟩
theorem td322_ok : tdOf Tryz.prog 322 = some td322 := by kernel_rfl
def td323 : TD := ⟨5, [.slice none 0 0, .int .i64 0, .int .i64 0, .int .i64 0, .slice none 0 0], .struct [(0, 2, true), (2, 1, false), (3, 1, false), (4, 1, false)]⟩
theorem td323_ok : tdOf Tryz.prog 323 = some td323 := by kernel_rfl
def td324 : TD := ⟨5, [.slice none 0 0, .int .i64 0, .int .i64 0, .int .i64 0, .slice none 0 0], .struct [(0, 2, true), (2, 1, false), (3, 1, false), (4, 1, false)]⟩
theorem td324_ok : tdOf Tryz.prog 324 = some td324 := by kernel_rfl
def td325 : TD := ⟨1, [.nilFunc], .other⟩
theorem td325_ok : tdOf Tryz.prog 325 = some td325 := by kernel_rfl
def td326 : TD := ⟨1, [.pointer none], .ptr⟩
theorem td326_ok : tdOf Tryz.prog 326 = some td326 := by kernel_rfl
def td327 : TD := ⟨3, [.int .i64 0, .slice none 0 0, .int .i64 0], .struct [(0, 1, false), (1, 1, false), (2, 1, false)]⟩
theorem td327_ok : tdOf Tryz.prog 327 = some td327 := by kernel_rfl
def td328 : TD := ⟨3, [.int .i64 0, .slice none 0 0, .int .i64 0], .struct [(0, 1, false), (1, 1, false), (2, 1, false)]⟩
theorem td328_ok : tdOf Tryz.prog 328 = some td328 := by kernel_rfl
def td329 : TD := ⟨1, [.nilFunc], .other⟩
theorem td329_ok : tdOf Tryz.prog 329 = some td329 := by kernel_rfl
def td330 : TD := ⟨1, [.nilFunc], .other⟩
theorem td330_ok : tdOf Tryz.prog 330 = some td330 := by kernel_rfl
def td331 : TD := ⟨1, [.nilFunc], .other⟩
theorem td331_ok : tdOf Tryz.prog 331 = some td331 := by kernel_rfl
def td332 : TD := ⟨1, [.nilFunc], .other⟩
theorem td332_ok : tdOf Tryz.prog 332 = some td332 := by kernel_rfl
def td333 : TD := ⟨1, [.nilFunc], .other⟩
theorem td333_ok : tdOf Tryz.prog 333 = some td333 := by kernel_rfl
def td334 : TD := ⟨1, [.nilFunc], .other⟩
theorem td334_ok : tdOf Tryz.prog 334 = some td334 := by kernel_rfl
def td335 : TD := ⟨1, [.nilFunc], .other⟩
theorem td335_ok : tdOf Tryz.prog 335 = some td335 := by kernel_rfl
def td336 : TD := ⟨6, [.int .i64 0, .int .i64 0, .int .i64 0, .int .i64 0, .int .i64 0, .int .i64 0], .arr 6 1 false⟩
theorem td336_ok : tdOf Tryz.prog 336 = some td336 := by kernel_rfl
def td337 : TD := ⟨1, [.nilFunc], .other⟩
theorem td337_ok : tdOf Tryz.prog 337 = some td337 := by kernel_rfl
def td338 : TD := ⟨1, [.pointer none], .ptr⟩
theorem td338_ok : tdOf Tryz.prog 338 = some td338 := by kernel_rfl
def td339 : TD := ⟨1, [.slice none 0 0], .slice 74 1⟩
theorem td339_ok : tdOf Tryz.prog 339 = some td339 := by kernel_rfl
def td340 : TD := ⟨1, [.nilFunc], .other⟩
theorem td340_ok : tdOf Tryz.prog 340 = some td340 := by kernel_rfl
def td341 : TD := ⟨1, [.nilFunc], .other⟩
theorem td341_ok : tdOf Tryz.prog 341 = some td341 := by kernel_rfl
def td342 : TD := ⟨1, [.nilFunc], .other⟩
theorem td342_ok : tdOf Tryz.prog 342 = some td342 := by kernel_rfl
def td343 : TD := ⟨1, [.nilFunc], .other⟩
theorem td343_ok : tdOf Tryz.prog 343 = some td343 := by kernel_rfl
def td344 : TD := ⟨1, [.nilFunc], .other⟩
theorem td344_ok : tdOf Tryz.prog 344 = some td344 := by kernel_rfl
def td345 : TD := ⟨1, [.nilFunc], .other⟩
theorem td345_ok : tdOf Tryz.prog 345 = some td345 := by kernel_rfl
def td346 : TD := ⟨1, [.nilFunc], .other⟩
theorem td346_ok : tdOf Tryz.prog 346 = some td346 := by kernel_rfl
def td347 : TD := ⟨1, [.nilFunc], .other⟩
theorem td347_ok : tdOf Tryz.prog 347 = some td347 := by kernel_rfl
def td349 : TD := ⟨1, [.nilFunc], .other⟩
theorem td349_ok : tdOf Tryz.prog 349 = some td349 := by kernel_rfl
def td350 : TD := ⟨1, [.nilFunc], .other⟩
theorem td350_ok : tdOf Tryz.prog 350 = some td350 := by kernel_rfl
def td351 : TD := ⟨1, [.nilFunc], .other⟩
theorem td351_ok : tdOf Tryz.prog 351 = some td351 := by kernel_rfl
def td352 : TD := ⟨1, [.nilFunc], .other⟩
theorem td352_ok : tdOf Tryz.prog 352 = some td352 := by kernel_rfl
def td353 : TD := ⟨1, [.nilFunc], .other⟩
theorem td353_ok : tdOf Tryz.prog 353 = some td353 := by kernel_rfl
def td354 : TD := ⟨1, [.nilFunc], .other⟩
theorem td354_ok : tdOf Tryz.prog 354 = some td354 := by kernel_rfl
def td355 : TD := ⟨16, [.int .i64 0, .int .i64 0, .int .i64 0, .int .i64 0, .int .i64 0, .int .i64 0, .int .i64 0, .int .i64 0, .int .i64 0, .int .i64 0, .int .i64 0, .int .i64 0, .int .i64 0, .int .i64 0, .int .i64 0, .int .i64 0], .arr 16 1 false⟩
theorem td355_ok : tdOf Tryz.prog 355 = some td355 := by kernel_rfl
def td356 : TD := ⟨1, [.nilFunc], .other⟩
theorem td356_ok : tdOf Tryz.prog 356 = some td356 := by kernel_rfl
def td357 : TD := ⟨1, [.nilFunc], .other⟩
theorem td357_ok : tdOf Tryz.prog 357 = some td357 := by kernel_rfl
def td359 : TD := ⟨1, [.nilFunc], .other⟩
theorem td359_ok : tdOf Tryz.prog 359 = some td359 := by kernel_rfl
def td360 : TD := ⟨1, [.nilFunc], .other⟩
theorem td360_ok : tdOf Tryz.prog 360 = some td360 := by kernel_rfl
def td361 : TD := ⟨1, [.nilFunc], .other⟩
theorem td361_ok : tdOf Tryz.prog 361 = some td361 := by kernel_rfl
def td362 : TD := ⟨1, [.slice none 0 0], .slice 5 1⟩
theorem td362_ok : tdOf Tryz.prog 362 = some td362 := by kernel_rfl
def td364 : TD := ⟨1, [.nilFunc], .other⟩
theorem td364_ok : tdOf Tryz.prog 364 = some td364 := by kernel_rfl
def td365 : TD := ⟨1, [.nilFunc], .other⟩
theorem td365_ok : tdOf Tryz.prog 365 = some td365 := by kernel_rfl
def td366 : TD := ⟨1, [.pointer none], .ptr⟩
theorem td366_ok : tdOf Tryz.prog 366 = some td366 := by kernel_rfl
def td367 : TD := ⟨1, [.nilFunc], .other⟩
theorem td367_ok : tdOf Tryz.prog 367 = some td367 := by kernel_rfl
def td368 : TD := ⟨1, [.nilFunc], .other⟩
theorem td368_ok : tdOf Tryz.prog 368 = some td368 := by kernel_rfl
def td369 : TD := ⟨1, [.nilFunc], .other⟩
theorem td369_ok : tdOf Tryz.prog 369 = some td369 := by kernel_rfl
def td370 : TD := ⟨1, [.nilFunc], .other⟩
theorem td370_ok : tdOf Tryz.prog 370 = some td370 := by kernel_rfl
def td371 : TD := ⟨1, [.nilFunc], .other⟩
theorem td371_ok : tdOf Tryz.prog 371 = some td371 := by kernel_rfl
def td372 : TD := ⟨1, [.nilFunc], .other⟩
theorem td372_ok : tdOf Tryz.prog 372 = some td372 := by kernel_rfl
def td373 : TD := ⟨1, [.nilFunc], .other⟩
theorem td373_ok : tdOf Tryz.prog 373 = some td373 := by kernel_rfl
def td374 : TD := ⟨1, [.nilFunc], .other⟩
theorem td374_ok : tdOf Tryz.prog 374 = some td374 := by kernel_rfl
def td375 : TD := ⟨1, [.slice none 0 0], .slice 378 2⟩
theorem td375_ok : tdOf Tryz.prog 375 = some td375 := by kernel_rfl
def td376 : TD := ⟨1, [.nilFunc], .other⟩
theorem td376_ok : tdOf Tryz.prog 376 = some td376 := by kernel_rfl
def td377 : TD := ⟨2, [.int .i64 0, .int .i64 0], .struct [(0, 1, false), (1, 1, false)]⟩
theorem td377_ok : tdOf Tryz.prog 377 = some td377 := by kernel_rfl
def td378 : TD := ⟨2, [.int .i64 0, .int .i64 0], .struct [(0, 1, false), (1, 1, false)]⟩
theorem td378_ok : tdOf Tryz.prog 378 = some td378 := by kernel_rfl
def td379 : TD := ⟨1, [.nilFunc], .other⟩
theorem td379_ok : tdOf Tryz.prog 379 = some td379 := by kernel_rfl
def td380 : TD := ⟨1, [.nilFunc], .other⟩
theorem td380_ok : tdOf Tryz.prog 380 = some td380 := by kernel_rfl
def td381 : TD := ⟨1, [.nilFunc], .other⟩
theorem td381_ok : tdOf Tryz.prog 381 = some td381 := by kernel_rfl
def td383 : TD := ⟨1, [.nilFunc], .other⟩
theorem td383_ok : tdOf Tryz.prog 383 = some td383 := by kernel_rfl
def td384 : TD := ⟨1, [.nilFunc], .other⟩
theorem td384_ok : tdOf Tryz.prog 384 = some td384 := by kernel_rfl
def td385 : TD := ⟨1, [.nilFunc], .other⟩
theorem td385_ok : tdOf Tryz.prog 385 = some td385 := by kernel_rfl
def td386 : TD := ⟨1, [.nilFunc], .other⟩
theorem td386_ok : tdOf Tryz.prog 386 = some td386 := by kernel_rfl
def td387 : TD := ⟨1, [.nilFunc], .other⟩
theorem td387_ok : tdOf Tryz.prog 387 = some td387 := by kernel_rfl
def td388 : TD := ⟨1, [.nilFunc], .other⟩
theorem td388_ok : tdOf Tryz.prog 388 = some td388 := by kernel_rfl
def td389 : TD := ⟨1, [.nilFunc], .other⟩
theorem td389_ok : tdOf Tryz.prog 389 = some td389 := by kernel_rfl
def td390 : TD := ⟨1, [.nilFunc], .other⟩
theorem td390_ok : tdOf Tryz.prog 390 = some td390 := by kernel_rfl
def td391 : TD := ⟨1, [.nilFunc], .other⟩
theorem td391_ok : tdOf Tryz.prog 391 = some td391 := by kernel_rfl
def td392 : TD := ⟨1, [.int .i64 0], .int .i64⟩
theorem td392_ok : tdOf Tryz.prog 392 = some td392 := by kernel_rfl
def td394 : TD := ⟨1, [.nilFunc], .other⟩
theorem td394_ok : tdOf Tryz.prog 394 = some td394 := by kernel_rfl
def td395 : TD := ⟨1, [.nilFunc], .other⟩
theorem td395_ok : tdOf Tryz.prog 395 = some td395 := by kernel_rfl
def td396 : TD := ⟨1, [.nilFunc], .other⟩
theorem td396_ok : tdOf Tryz.prog 396 = some td396 := by kernel_rfl
def td397 : TD := ⟨1, [.nilFunc], .other⟩
theorem td397_ok : tdOf Tryz.prog 397 = some td397 := by kernel_rfl
def td398 : TD := ⟨1, [.nilFunc], .other⟩
theorem td398_ok : tdOf Tryz.prog 398 = some td398 := by kernel_rfl
def td399 : TD := ⟨1, [.int .u32 0], .int .u32⟩
theorem td399_ok : tdOf Tryz.prog 399 = some td399 := by kernel_rfl
def td400 : TD := ⟨1, [.int .u64 0], .int .u64⟩
theorem td400_ok : tdOf Tryz.prog 400 = some td400 := by kernel_rfl
def td401 : TD := ⟨1, [.nilFunc], .other⟩
theorem td401_ok : tdOf Tryz.prog 401 = some td401 := by kernel_rfl
def td402 : TD := ⟨1, [.nilFunc], .other⟩
theorem td402_ok : tdOf Tryz.prog 402 = some td402 := by kernel_rfl
def td403 : TD := ⟨1, [.nilFunc], .other⟩
theorem td403_ok : tdOf Tryz.prog 403 = some td403 := by kernel_rfl
def td404 : TD := ⟨1, [.nilFunc], .other⟩
theorem td404_ok : tdOf Tryz.prog 404 = some td404 := by kernel_rfl
def td405 : TD := ⟨1, [.pointer none], .ptr⟩
theorem td405_ok : tdOf Tryz.prog 405 = some td405 := by kernel_rfl
def td406 : TD := ⟨1, [.nilFunc], .other⟩
theorem td406_ok : tdOf Tryz.prog 406 = some td406 := by kernel_rfl
def td407 : TD := ⟨1, [.pointer none], .ptr⟩
theorem td407_ok : tdOf Tryz.prog 407 = some td407 := by kernel_rfl
def td408 : TD := ⟨1, [.nilFunc], .other⟩
theorem td408_ok : tdOf Tryz.prog 408 = some td408 := by kernel_rfl
def td409 : TD := ⟨4, [.pointer none, .pointer none, .pointer none, .string ⟨#[]⟩], .struct [(0, 1, false), (1, 1, false), (2, 1, false), (3, 1, false)]⟩
theorem td409_ok : tdOf Tryz.prog 409 = some td409 := by kernel_rfl
def td410 : TD := ⟨4, [.pointer none, .pointer none, .pointer none, .string ⟨#[]⟩], .struct [(0, 1, false), (1, 1, false), (2, 1, false), (3, 1, false)]⟩
theorem td410_ok : tdOf Tryz.prog 410 = some td410 := by kernel_rfl
def td411 : TD := ⟨0, [], .arr 0 1 false⟩
theorem td411_ok : tdOf Tryz.prog 411 = some td411 := by kernel_rfl
def td412 : TD := ⟨0, [], .struct [(0, 0, true)]⟩
theorem td412_ok : tdOf Tryz.prog 412 = some td412 := by kernel_rfl
def td413 : TD := ⟨0, [], .struct [(0, 0, true)]⟩
theorem td413_ok : tdOf Tryz.prog 413 = some td413 := by kernel_rfl
def td414 : TD := ⟨1, [.int .u8 0], .int .u8⟩
theorem td414_ok : tdOf Tryz.prog 414 = some td414 := by kernel_rfl
def td415 : TD := ⟨1, [.int .u8 0], .int .u8⟩
theorem td415_ok : tdOf Tryz.prog 415 = some td415 := by kernel_rfl
def td416 : TD := ⟨1, [.nilFunc], .other⟩
theorem td416_ok : tdOf Tryz.prog 416 = some td416 := by kernel_rfl
def td417 : TD := ⟨1, [.pointer none], .ptr⟩
theorem td417_ok : tdOf Tryz.prog 417 = some td417 := by kernel_rfl
def td418 : TD := ⟨1, [.int .i32 0], .int .i32⟩
theorem td418_ok : tdOf Tryz.prog 418 = some td418 := by kernel_rfl
def td419 : TD := ⟨1, [.int .i32 0], .int .i32⟩
theorem td419_ok : tdOf Tryz.prog 419 = some td419 := by kernel_rfl
def td420 : TD := ⟨11, [.int .u64 0, .int .u64 0, .int .u32 0, .int .u8 0, .int .u8 0, .int .u8 0, .int .u8 0, .nilFunc, .pointer none, .int .i32 0, .int .i32 0], .struct [(0, 1, false), (1, 1, false), (2, 1, false), (3, 1, false), (4, 1, false), (5, 1, false), (6, 1, false), (7, 1, false), (8, 1, false), (9, 1, false), (10, 1, false)]⟩
theorem td420_ok : tdOf Tryz.prog 420 = some td420 := by kernel_rfl
def td421 : TD := ⟨11, [.int .u64 0, .int .u64 0, .int .u32 0, .int .u8 0, .int .u8 0, .int .u8 0, .int .u8 0, .nilFunc, .pointer none, .int .i32 0, .int .i32 0], .struct [(0, 1, false), (1, 1, false), (2, 1, false), (3, 1, false), (4, 1, false), (5, 1, false), (6, 1, false), (7, 1, false), (8, 1, false), (9, 1, false), (10, 1, false)]⟩
theorem td421_ok : tdOf Tryz.prog 421 = some td421 := by kernel_rfl
def td422 : TD := ⟨1, [.nilFunc], .other⟩
theorem td422_ok : tdOf Tryz.prog 422 = some td422 := by kernel_rfl
def td423 : TD := ⟨1, [.string ⟨#[]⟩], .struct [(0, 1, false)]⟩
theorem td423_ok : tdOf Tryz.prog 423 = some td423 := by kernel_rfl
def td424 : TD := ⟨1, [.string ⟨#[]⟩], .struct [(0, 1, false)]⟩
theorem td424_ok : tdOf Tryz.prog 424 = some td424 := by kernel_rfl
def td425 : TD := ⟨1, [.pointer none], .other⟩
theorem td425_ok : tdOf Tryz.prog 425 = some td425 := by kernel_rfl
def TT : Tr := (.node (.node (.node (.node (.node (.node (.node (.node (.node .leaf 1 td1 .leaf) 2 td2 (.node .leaf 3 td3 .leaf)) 4 td4 (.node (.node .leaf 5 td5 .leaf) 6 td6 .leaf)) 7 td7 (.node (.node (.node .leaf 8 td8 .leaf) 9 td9 .leaf) 10 td10 (.node (.node .leaf 11 td11 .leaf) 12 td12 .leaf))) 13 td13 (.node (.node (.node (.node .leaf 14 td14 .leaf) 15 td15 .leaf) 16 td16 (.node (.node .leaf 17 td17 .leaf) 18 td18 .leaf)) 19 td19 (.node (.node (.node .leaf 20 td20 .leaf) 21 td21 .leaf) 22 td22 (.node (.node .leaf 23 td23 .leaf) 24 td24 .leaf)))) 25 td25 (.node (.node (.node (.node (.node .leaf 26 td26 .leaf) 27 td27 .leaf) 28 td28 (.node (.node .leaf 29 td29 .leaf) 30 td30 .leaf)) 31 td31 (.node (.node (.node .leaf 32 td32 .leaf) 34 td34 .leaf) 35 td35 (.node (.node .leaf 36 td36 .leaf) 37 td37 .leaf))) 38 td38 (.node (.node (.node (.node .leaf 39 td39 .leaf) 41 td41 .leaf) 42 td42 (.node (.node .leaf 43 td43 .leaf) 44 td44 .leaf)) 45 td45 (.node (.node (.node .leaf 46 td46 .leaf) 47 td47 .leaf) 48 td48 (.node (.node .leaf 49 td49 .leaf) 50 td50 .leaf))))) 51 td51 (.node (.node (.node (.node (.node (.node .leaf 52 td52 .leaf) 54 td54 (.node .leaf 55 td55 .leaf)) 56 td56 (.node (.node .leaf 57 td57 .leaf) 58 td58 .leaf)) 60 td60 (.node (.node (.node .leaf 61 td61 .leaf) 62 td62 .leaf) 63 td63 (.node (.node .leaf 65 td65 .leaf) 66 td66 .leaf))) 68 td68 (.node (.node (.node (.node .leaf 69 td69 .leaf) 70 td70 .leaf) 71 td71 (.node (.node .leaf 72 td72 .leaf) 73 td73 .leaf)) 74 td74 (.node (.node (.node .leaf 75 td75 .leaf) 76 td76 .leaf) 78 td78 (.node (.node .leaf 79 td79 .leaf) 80 td80 .leaf)))) 81 td81 (.node (.node (.node (.node (.node .leaf 82 td82 .leaf) 83 td83 .leaf) 84 td84 (.node (.node .leaf 85 td85 .leaf) 87 td87 .leaf)) 88 td88 (.node (.node (.node .leaf 89 td89 .leaf) 90 td90 .leaf) 91 td91 (.node (.node .leaf 92 td92 .leaf) 93 td93 .leaf))) 95 td95 (.node (.node (.node (.node .leaf 96 td96 .leaf) 97 td97 .leaf) 98 td98 (.node (.node .leaf 99 td99 .leaf) 100 td100 .leaf)) 102 td102 (.node (.node (.node .leaf 104 td104 .leaf) 105 td105 .leaf) 106 td106 (.node (.node .leaf 107 td107 .leaf) 108 td108 .leaf)))))) 109 td109 (.node (.node (.node (.node (.node (.node (.node .leaf 111 td111 .leaf) 112 td112 (.node .leaf 113 td113 .leaf)) 114 td114 (.node (.node .leaf 115 td115 .leaf) 116 td116 .leaf)) 117 td117 (.node (.node (.node .leaf 118 td118 .leaf) 119 td119 .leaf) 120 td120 (.node (.node .leaf 122 td122 .leaf) 124 td124 .leaf))) 125 td125 (.node (.node (.node (.node .leaf 126 td126 .leaf) 127 td127 .leaf) 128 td128 (.node (.node .leaf 129 td129 .leaf) 130 td130 .leaf)) 131 td131 (.node (.node (.node .leaf 132 td132 .leaf) 133 td133 .leaf) 134 td134 (.node (.node .leaf 135 td135 .leaf) 136 td136 .leaf)))) 137 td137 (.node (.node (.node (.node (.node .leaf 138 td138 .leaf) 139 td139 .leaf) 140 td140 (.node (.node .leaf 141 td141 .leaf) 142 td142 .leaf)) 143 td143 (.node (.node (.node .leaf 144 td144 .leaf) 145 td145 .leaf) 146 td146 (.node (.node .leaf 147 td147 .leaf) 148 td148 .leaf))) 150 td150 (.node (.node (.node (.node .leaf 152 td152 .leaf) 154 td154 .leaf) 155 td155 (.node (.node .leaf 156 td156 .leaf) 157 td157 .leaf)) 158 td158 (.node (.node (.node .leaf 159 td159 .leaf) 160 td160 .leaf) 161 td161 (.node (.node .leaf 162 td162 .leaf) 163 td163 .leaf))))) 164 td164 (.node (.node (.node (.node (.node (.node .leaf 165 td165 .leaf) 166 td166 .leaf) 167 td167 (.node (.node .leaf 168 td168 .leaf) 169 td169 .leaf)) 170 td170 (.node (.node (.node .leaf 171 td171 .leaf) 172 td172 .leaf) 173 td173 (.node (.node .leaf 175 td175 .leaf) 176 td176 .leaf))) 178 td178 (.node (.node (.node (.node .leaf 179 td179 .leaf) 180 td180 .leaf) 181 td181 (.node (.node .leaf 183 td183 .leaf) 185 td185 .leaf)) 186 td186 (.node (.node (.node .leaf 187 td187 .leaf) 188 td188 .leaf) 189 td189 (.node (.node .leaf 190 td190 .leaf) 191 td191 .leaf)))) 192 td192 (.node (.node (.node (.node (.node .leaf 193 td193 .leaf) 194 td194 .leaf) 196 td196 (.node (.node .leaf 198 td198 .leaf) 199 td199 .leaf)) 200 td200 (.node (.node (.node .leaf 201 td201 .leaf) 203 td203 .leaf) 204 td204 (.node (.node .leaf 205 td205 .leaf) 206 td206 .leaf))) 208 td208 (.node (.node (.node (.node .leaf 209 td209 .leaf) 210 td210 .leaf) 211 td211 (.node (.node .leaf 213 td213 .leaf) 214 td214 .leaf)) 215 td215 (.node (.node (.node .leaf 216 td216 .leaf) 217 td217 .leaf) 218 td218 (.node (.node .leaf 219 td219 .leaf) 220 td220 .leaf))))))) 221 td221 (.node (.node (.node (.node (.node (.node (.node (.node .leaf 222 td222 .leaf) 223 td223 (.node .leaf 224 td224 .leaf)) 225 td225 (.node (.node .leaf 226 td226 .leaf) 227 td227 .leaf)) 229 td229 (.node (.node (.node .leaf 230 td230 .leaf) 231 td231 .leaf) 232 td232 (.node (.node .leaf 233 td233 .leaf) 234 td234 .leaf))) 235 td235 (.node (.node (.node (.node .leaf 236 td236 .leaf) 237 td237 .leaf) 238 td238 (.node (.node .leaf 239 td239 .leaf) 240 td240 .leaf)) 241 td241 (.node (.node (.node .leaf 242 td242 .leaf) 243 td243 .leaf) 244 td244 (.node (.node .leaf 245 td245 .leaf) 246 td246 .leaf)))) 247 td247 (.node (.node (.node (.node (.node .leaf 248 td248 .leaf) 249 td249 .leaf) 250 td250 (.node (.node .leaf 252 td252 .leaf) 254 td254 .leaf)) 255 td255 (.node (.node (.node .leaf 256 td256 .leaf) 257 td257 .leaf) 258 td258 (.node (.node .leaf 259 td259 .leaf) 260 td260 .leaf))) 261 td261 (.node (.node (.node (.node .leaf 262 td262 .leaf) 263 td263 .leaf) 264 td264 (.node (.node .leaf 265 td265 .leaf) 266 td266 .leaf)) 267 td267 (.node (.node (.node .leaf 269 td269 .leaf) 270 td270 .leaf) 271 td271 (.node (.node .leaf 272 td272 .leaf) 273 td273 .leaf))))) 274 td274 (.node (.node (.node (.node (.node (.node .leaf 275 td275 .leaf) 276 td276 .leaf) 277 td277 (.node (.node .leaf 278 td278 .leaf) 279 td279 .leaf)) 280 td280 (.node (.node (.node .leaf 281 td281 .leaf) 282 td282 .leaf) 283 td283 (.node (.node .leaf 284 td284 .leaf) 285 td285 .leaf))) 286 td286 (.node (.node (.node (.node .leaf 287 td287 .leaf) 289 td289 .leaf) 290 td290 (.node (.node .leaf 291 td291 .leaf) 292 td292 .leaf)) 293 td293 (.node (.node (.node .leaf 294 td294 .leaf) 295 td295 .leaf) 296 td296 (.node (.node .leaf 297 td297 .leaf) 298 td298 .leaf)))) 299 td299 (.node (.node (.node (.node (.node .leaf 300 td300 .leaf) 301 td301 .leaf) 302 td302 (.node (.node .leaf 303 td303 .leaf) 304 td304 .leaf)) 305 td305 (.node (.node (.node .leaf 306 td306 .leaf) 307 td307 .leaf) 308 td308 (.node (.node .leaf 309 td309 .leaf) 310 td310 .leaf))) 311 td311 (.node (.node (.node (.node .leaf 312 td312 .leaf) 313 td313 .leaf) 314 td314 (.node (.node .leaf 315 td315 .leaf) 316 td316 .leaf)) 318 td318 (.node (.node (.node .leaf 319 td319 .leaf) 320 td320 .leaf) 321 td321 (.node (.node .leaf 322 td322 .leaf) 323 td323 .leaf)))))) 324 td324 (.node (.node (.node (.node (.node (.node (.node .leaf 325 td325 .leaf) 326 td326 (.node .leaf 327 td327 .leaf)) 328 td328 (.node (.node .leaf 329 td329 .leaf) 330 td330 .leaf)) 331 td331 (.node (.node (.node .leaf 332 td332 .leaf) 333 td333 .leaf) 334 td334 (.node (.node .leaf 335 td335 .leaf) 336 td336 .leaf))) 337 td337 (.node (.node (.node (.node .leaf 338 td338 .leaf) 339 td339 .leaf) 340 td340 (.node (.node .leaf 341 td341 .leaf) 342 td342 .leaf)) 343 td343 (.node (.node (.node .leaf 344 td344 .leaf) 345 td345 .leaf) 346 td346 (.node (.node .leaf 347 td347 .leaf) 349 td349 .leaf)))) 350 td350 (.node (.node (.node (.node (.node .leaf 351 td351 .leaf) 352 td352 .leaf) 353 td353 (.node (.node .leaf 354 td354 .leaf) 355 td355 .leaf)) 356 td356 (.node (.node (.node .leaf 357 td357 .leaf) 359 td359 .leaf) 360 td360 (.node (.node .leaf 361 td361 .leaf) 362 td362 .leaf))) 364 td364 (.node (.node (.node (.node .leaf 365 td365 .leaf) 366 td366 .leaf) 367 td367 (.node (.node .leaf 368 td368 .leaf) 369 td369 .leaf)) 370 td370 (.node (.node (.node .leaf 371 td371 .leaf) 372 td372 .leaf) 373 td373 (.node (.node .leaf 374 td374 .leaf) 375 td375 .leaf))))) 376 td376 (.node (.node (.node (.node (.node (.node .leaf 377 td377 .leaf) 378 td378 .leaf) 379 td379 (.node (.node .leaf 380 td380 .leaf) 381 td381 .leaf)) 383 td383 (.node (.node (.node .leaf 384 td384 .leaf) 385 td385 .leaf) 386 td386 (.node (.node .leaf 387 td387 .leaf) 388 td388 .leaf))) 389 td389 (.node (.node (.node (.node .leaf 390 td390 .leaf) 391 td391 .leaf) 392 td392 (.node (.node .leaf 394 td394 .leaf) 395 td395 .leaf)) 396 td396 (.node (.node (.node .leaf 397 td397 .leaf) 398 td398 .leaf) 399 td399 (.node (.node .leaf 400 td400 .leaf) 401 td401 .leaf)))) 402 td402 (.node (.node (.node (.node (.node .leaf 403 td403 .leaf) 404 td404 .leaf) 405 td405 (.node (.node .leaf 406 td406 .leaf) 407 td407 .leaf)) 408 td408 (.node (.node (.node .leaf 409 td409 .leaf) 410 td410 .leaf) 411 td411 (.node (.node .leaf 412 td412 .leaf) 413 td413 .leaf))) 414 td414 (.node (.node (.node (.node .leaf 415 td415 .leaf) 416 td416 .leaf) 417 td417 (.node (.node .leaf 418 td418 .leaf) 419 td419 .leaf)) 420 td420 (.node (.node (.node .leaf 421 td421 .leaf) 422 td422 .leaf) 423 td423 (.node (.node .leaf 424 td424 .leaf) 425 td425 .leaf))))))))
theorem TT_ok : TT.OK Tryz.prog := ⟨⟨⟨⟨⟨⟨⟨⟨⟨trivial, td1_ok, trivial⟩, td2_ok, ⟨trivial, td3_ok, trivial⟩⟩, td4_ok, ⟨⟨trivial, td5_ok, trivial⟩, td6_ok, trivial⟩⟩, td7_ok, ⟨⟨⟨trivial, td8_ok, trivial⟩, td9_ok, trivial⟩, td10_ok, ⟨⟨trivial, td11_ok, trivial⟩, td12_ok, trivial⟩⟩⟩, td13_ok, ⟨⟨⟨⟨trivial, td14_ok, trivial⟩, td15_ok, trivial⟩, td16_ok, ⟨⟨trivial, td17_ok, trivial⟩, td18_ok, trivial⟩⟩, td19_ok, ⟨⟨⟨trivial, td20_ok, trivial⟩, td21_ok, trivial⟩, td22_ok, ⟨⟨trivial, td23_ok, trivial⟩, td24_ok, trivial⟩⟩⟩⟩, td25_ok, ⟨⟨⟨⟨⟨trivial, td26_ok, trivial⟩, td27_ok, trivial⟩, td28_ok, ⟨⟨trivial, td29_ok, trivial⟩, td30_ok, trivial⟩⟩, td31_ok, ⟨⟨⟨trivial, td32_ok, trivial⟩, td34_ok, trivial⟩, td35_ok, ⟨⟨trivial, td36_ok, trivial⟩, td37_ok, trivial⟩⟩⟩, td38_ok, ⟨⟨⟨⟨trivial, td39_ok, trivial⟩, td41_ok, trivial⟩, td42_ok, ⟨⟨trivial, td43_ok, trivial⟩, td44_ok, trivial⟩⟩, td45_ok, ⟨⟨⟨trivial, td46_ok, trivial⟩, td47_ok, trivial⟩, td48_ok, ⟨⟨trivial, td49_ok, trivial⟩, td50_ok, trivial⟩⟩⟩⟩⟩, td51_ok, ⟨⟨⟨⟨⟨⟨trivial, td52_ok, trivial⟩, td54_ok, ⟨trivial, td55_ok, trivial⟩⟩, td56_ok, ⟨⟨trivial, td57_ok, trivial⟩, td58_ok, trivial⟩⟩, td60_ok, ⟨⟨⟨trivial, td61_ok, trivial⟩, td62_ok, trivial⟩, td63_ok, ⟨⟨trivial, td65_ok, trivial⟩, td66_ok, trivial⟩⟩⟩, td68_ok, ⟨⟨⟨⟨trivial, td69_ok, trivial⟩, td70_ok, trivial⟩, td71_ok, ⟨⟨trivial, td72_ok, trivial⟩, td73_ok, trivial⟩⟩, td74_ok, ⟨⟨⟨trivial, td75_ok, trivial⟩, td76_ok, trivial⟩, td78_ok, ⟨⟨trivial, td79_ok, trivial⟩, td80_ok, trivial⟩⟩⟩⟩, td81_ok, ⟨⟨⟨⟨⟨trivial, td82_ok, trivial⟩, td83_ok, trivial⟩, td84_ok, ⟨⟨trivial, td85_ok, trivial⟩, td87_ok, trivial⟩⟩, td88_ok, ⟨⟨⟨trivial, td89_ok, trivial⟩, td90_ok, trivial⟩, td91_ok, ⟨⟨trivial, td92_ok, trivial⟩, td93_ok, trivial⟩⟩⟩, td95_ok, ⟨⟨⟨⟨trivial, td96_ok, trivial⟩, td97_ok, trivial⟩, td98_ok, ⟨⟨trivial, td99_ok, trivial⟩, td100_ok, trivial⟩⟩, td102_ok, ⟨⟨⟨trivial, td104_ok, trivial⟩, td105_ok, trivial⟩, td106_ok, ⟨⟨trivial, td107_ok, trivial⟩, td108_ok, trivial⟩⟩⟩⟩⟩⟩, td109_ok, ⟨⟨⟨⟨⟨⟨⟨trivial, td111_ok, trivial⟩, td112_ok, ⟨trivial, td113_ok, trivial⟩⟩, td114_ok, ⟨⟨trivial, td115_ok, trivial⟩, td116_ok, trivial⟩⟩, td117_ok, ⟨⟨⟨trivial, td118_ok, trivial⟩, td119_ok, trivial⟩, td120_ok, ⟨⟨trivial, td122_ok, trivial⟩, td124_ok, trivial⟩⟩⟩, td125_ok, ⟨⟨⟨⟨trivial, td126_ok, trivial⟩, td127_ok, trivial⟩, td128_ok, ⟨⟨trivial, td129_ok, trivial⟩, td130_ok, trivial⟩⟩, td131_ok, ⟨⟨⟨trivial, td132_ok, trivial⟩, td133_ok, trivial⟩, td134_ok, ⟨⟨trivial, td135_ok, trivial⟩, td136_ok, trivial⟩⟩⟩⟩, td137_ok, ⟨⟨⟨⟨⟨trivial, td138_ok, trivial⟩, td139_ok, trivial⟩, td140_ok, ⟨⟨trivial, td141_ok, trivial⟩, td142_ok, trivial⟩⟩, td143_ok, ⟨⟨⟨trivial, td144_ok, trivial⟩, td145_ok, trivial⟩, td146_ok, ⟨⟨trivial, td147_ok, trivial⟩, td148_ok, trivial⟩⟩⟩, td150_ok, ⟨⟨⟨⟨trivial, td152_ok, trivial⟩, td154_ok, trivial⟩, td155_ok, ⟨⟨trivial, td156_ok, trivial⟩, td157_ok, trivial⟩⟩, td158_ok, ⟨⟨⟨trivial, td159_ok, trivial⟩, td160_ok, trivial⟩, td161_ok, ⟨⟨trivial, td162_ok, trivial⟩, td163_ok, trivial⟩⟩⟩⟩⟩, td164_ok, ⟨⟨⟨⟨⟨⟨trivial, td165_ok, trivial⟩, td166_ok, trivial⟩, td167_ok, ⟨⟨trivial, td168_ok, trivial⟩, td169_ok, trivial⟩⟩, td170_ok, ⟨⟨⟨trivial, td171_ok, trivial⟩, td172_ok, trivial⟩, td173_ok, ⟨⟨trivial, td175_ok, trivial⟩, td176_ok, trivial⟩⟩⟩, td178_ok, ⟨⟨⟨⟨trivial, td179_ok, trivial⟩, td180_ok, trivial⟩, td181_ok, ⟨⟨trivial, td183_ok, trivial⟩, td185_ok, trivial⟩⟩, td186_ok, ⟨⟨⟨trivial, td187_ok, trivial⟩, td188_ok, trivial⟩, td189_ok, ⟨⟨trivial, td190_ok, trivial⟩, td191_ok, trivial⟩⟩⟩⟩, td192_ok, ⟨⟨⟨⟨⟨trivial, td193_ok, trivial⟩, td194_ok, trivial⟩, td196_ok, ⟨⟨trivial, td198_ok, trivial⟩, td199_ok, trivial⟩⟩, td200_ok, ⟨⟨⟨trivial, td201_ok, trivial⟩, td203_ok, trivial⟩, td204_ok, ⟨⟨trivial, td205_ok, trivial⟩, td206_ok, trivial⟩⟩⟩, td208_ok, ⟨⟨⟨⟨trivial, td209_ok, trivial⟩, td210_ok, trivial⟩, td211_ok, ⟨⟨trivial, td213_ok, trivial⟩, td214_ok, trivial⟩⟩, td215_ok, ⟨⟨⟨trivial, td216_ok, trivial⟩, td217_ok, trivial⟩, td218_ok, ⟨⟨trivial, td219_ok, trivial⟩, td220_ok, trivial⟩⟩⟩⟩⟩⟩⟩, td221_ok, ⟨⟨⟨⟨⟨⟨⟨⟨trivial, td222_ok, trivial⟩, td223_ok, ⟨trivial, td224_ok, trivial⟩⟩, td225_ok, ⟨⟨trivial, td226_ok, trivial⟩, td227_ok, trivial⟩⟩, td229_ok, ⟨⟨⟨trivial, td230_ok, trivial⟩, td231_ok, trivial⟩, td232_ok, ⟨⟨trivial, td233_ok, trivial⟩, td234_ok, trivial⟩⟩⟩, td235_ok, ⟨⟨⟨⟨trivial, td236_ok, trivial⟩, td237_ok, trivial⟩, td238_ok, ⟨⟨trivial, td239_ok, trivial⟩, td240_ok, trivial⟩⟩, td241_ok, ⟨⟨⟨trivial, td242_ok, trivial⟩, td243_ok, trivial⟩, td244_ok, ⟨⟨trivial, td245_ok, trivial⟩, td246_ok, trivial⟩⟩⟩⟩, td247_ok, ⟨⟨⟨⟨⟨trivial, td248_ok, trivial⟩, td249_ok, trivial⟩, td250_ok, ⟨⟨trivial, td252_ok, trivial⟩, td254_ok, trivial⟩⟩, td255_ok, ⟨⟨⟨trivial, td256_ok, trivial⟩, td257_ok, trivial⟩, td258_ok, ⟨⟨trivial, td259_ok, trivial⟩, td260_ok, trivial⟩⟩⟩, td261_ok, ⟨⟨⟨⟨trivial, td262_ok, trivial⟩, td263_ok, trivial⟩, td264_ok, ⟨⟨trivial, td265_ok, trivial⟩, td266_ok, trivial⟩⟩, td267_ok, ⟨⟨⟨trivial, td269_ok, trivial⟩, td270_ok, trivial⟩, td271_ok, ⟨⟨trivial, td272_ok, trivial⟩, td273_ok, trivial⟩⟩⟩⟩⟩, td274_ok, ⟨⟨⟨⟨⟨⟨trivial, td275_ok, trivial⟩, td276_ok, trivial⟩, td277_ok, ⟨⟨trivial, td278_ok, trivial⟩, td279_ok, trivial⟩⟩, td280_ok, ⟨⟨⟨trivial, td281_ok, trivial⟩, td282_ok, trivial⟩, td283_ok, ⟨⟨trivial, td284_ok, trivial⟩, td285_ok, trivial⟩⟩⟩, td286_ok, ⟨⟨⟨⟨trivial, td287_ok, trivial⟩, td289_ok, trivial⟩, td290_ok, ⟨⟨trivial, td291_ok, trivial⟩, td292_ok, trivial⟩⟩, td293_ok, ⟨⟨⟨trivial, td294_ok, trivial⟩, td295_ok, trivial⟩, td296_ok, ⟨⟨trivial, td297_ok, trivial⟩, td298_ok, trivial⟩⟩⟩⟩, td299_ok, ⟨⟨⟨⟨⟨trivial, td300_ok, trivial⟩, td301_ok, trivial⟩, td302_ok, ⟨⟨trivial, td303_ok, trivial⟩, td304_ok, trivial⟩⟩, td305_ok, ⟨⟨⟨trivial, td306_ok, trivial⟩, td307_ok, trivial⟩, td308_ok, ⟨⟨trivial, td309_ok, trivial⟩, td310_ok, trivial⟩⟩⟩, td311_ok, ⟨⟨⟨⟨trivial, td312_ok, trivial⟩, td313_ok, trivial⟩, td314_ok, ⟨⟨trivial, td315_ok, trivial⟩, td316_ok, trivial⟩⟩, td318_ok, ⟨⟨⟨trivial, td319_ok, trivial⟩, td320_ok, trivial⟩, td321_ok, ⟨⟨trivial, td322_ok, trivial⟩, td323_ok, trivial⟩⟩⟩⟩⟩⟩, td324_ok, ⟨⟨⟨⟨⟨⟨⟨trivial, td325_ok, trivial⟩, td326_ok, ⟨trivial, td327_ok, trivial⟩⟩, td328_ok, ⟨⟨trivial, td329_ok, trivial⟩, td330_ok, trivial⟩⟩, td331_ok, ⟨⟨⟨trivial, td332_ok, trivial⟩, td333_ok, trivial⟩, td334_ok, ⟨⟨trivial, td335_ok, trivial⟩, td336_ok, trivial⟩⟩⟩, td337_ok, ⟨⟨⟨⟨trivial, td338_ok, trivial⟩, td339_ok, trivial⟩, td340_ok, ⟨⟨trivial, td341_ok, trivial⟩, td342_ok, trivial⟩⟩, td343_ok, ⟨⟨⟨trivial, td344_ok, trivial⟩, td345_ok, trivial⟩, td346_ok, ⟨⟨trivial, td347_ok, trivial⟩, td349_ok, trivial⟩⟩⟩⟩, td350_ok, ⟨⟨⟨⟨⟨trivial, td351_ok, trivial⟩, td352_ok, trivial⟩, td353_ok, ⟨⟨trivial, td354_ok, trivial⟩, td355_ok, trivial⟩⟩, td356_ok, ⟨⟨⟨trivial, td357_ok, trivial⟩, td359_ok, trivial⟩, td360_ok, ⟨⟨trivial, td361_ok, trivial⟩, td362_ok, trivial⟩⟩⟩, td364_ok, ⟨⟨⟨⟨trivial, td365_ok, trivial⟩, td366_ok, trivial⟩, td367_ok, ⟨⟨trivial, td368_ok, trivial⟩, td369_ok, trivial⟩⟩, td370_ok, ⟨⟨⟨trivial, td371_ok, trivial⟩, td372_ok, trivial⟩, td373_ok, ⟨⟨trivial, td374_ok, trivial⟩, td375_ok, trivial⟩⟩⟩⟩⟩, td376_ok, ⟨⟨⟨⟨⟨⟨trivial, td377_ok, trivial⟩, td378_ok, trivial⟩, td379_ok, ⟨⟨trivial, td380_ok, trivial⟩, td381_ok, trivial⟩⟩, td383_ok, ⟨⟨⟨trivial, td384_ok, trivial⟩, td385_ok, trivial⟩, td386_ok, ⟨⟨trivial, td387_ok, trivial⟩, td388_ok, trivial⟩⟩⟩, td389_ok, ⟨⟨⟨⟨trivial, td390_ok, trivial⟩, td391_ok, trivial⟩, td392_ok, ⟨⟨trivial, td394_ok, trivial⟩, td395_ok, trivial⟩⟩, td396_ok, ⟨⟨⟨trivial, td397_ok, trivial⟩, td398_ok, trivial⟩, td399_ok, ⟨⟨trivial, td400_ok, trivial⟩, td401_ok, trivial⟩⟩⟩⟩, td402_ok, ⟨⟨⟨⟨⟨trivial, td403_ok, trivial⟩, td404_ok, trivial⟩, td405_ok, ⟨⟨trivial, td406_ok, trivial⟩, td407_ok, trivial⟩⟩, td408_ok, ⟨⟨⟨trivial, td409_ok, trivial⟩, td410_ok, trivial⟩, td411_ok, ⟨⟨trivial, td412_ok, trivial⟩, td413_ok, trivial⟩⟩⟩, td414_ok, ⟨⟨⟨⟨trivial, td415_ok, trivial⟩, td416_ok, trivial⟩, td417_ok, ⟨⟨trivial, td418_ok, trivial⟩, td419_ok, trivial⟩⟩, td420_ok, ⟨⟨⟨trivial, td421_ok, trivial⟩, td422_ok, trivial⟩, td423_ok, ⟨⟨trivial, td424_ok, trivial⟩, td425_ok, trivial⟩⟩⟩⟩⟩⟩⟩⟩
theorem mix : Tryz.prog.follows .mixedOrders = true := by kernel_rfl
end Go.Ev
