/- The facts of the program's types and its functions in short form, by the kernel; no conditions. -/
import Derived.Test.YtjbafnbkcjoohaaGreatDoorRunOne
import Derived.Test.YtjbafnbkcjoohaaGreatDoorAugFive
import Derived.Test.YtjbafnbkcjoohaaGreatDoorProg
import Derived.KernelRfl
import Derived.Tactics
import Derived.Tactics2
import Derived.Defers
import Derived.Recover
import Derived.Laws.Pointers
set_option linter.all false
set_option linter.unusedVariables false
set_option linter.unusedSimpArgs false
set_option linter.unusedSectionVars false

/- The facts of the great seat's types and functions (round rx, seat ZD) that the reckoning asks for PrintForms; by program (gz.sh, gen2.py). -/
namespace Go.Aug
open Go.Proofs
set_option maxRecDepth 100000

/-- The package variables: the errors of package api that these functions name; mm: blocks that stay (a table of the library's). -/
def seatZ (eb : Nat → Addr) (mm : Nat → Option Obj) : Env := ⟨312, 314, eb, fun g => if (0 < g && g < 4) || g == 5 then some (.sent g) else none, mm⟩

theorem mixed : Tryz.prog.follows .mixedOrders = true := by kernel_rfl
@[go_sem] theorem q_appOf_101 : appOf Tryz.prog 101 = (some (175, (3, 32))) := by kernel_rfl
@[go_sem] theorem q_appOf_22 : appOf Tryz.prog 22 = (some (9, (1, 16))) := by kernel_rfl
@[go_sem] theorem q_appOf_23 : appOf Tryz.prog 23 = (some (75, (2, 40))) := by kernel_rfl
@[go_sem] theorem q_appOf_24 : appOf Tryz.prog 24 = (some (35, (3, 48))) := by kernel_rfl
@[go_sem] theorem q_appOf_26 : appOf Tryz.prog 26 = (some (28, (4, 56))) := by kernel_rfl
@[go_sem] theorem q_appOf_29 : appOf Tryz.prog 29 = (some (31, (12, 184))) := by kernel_rfl
@[go_sem] theorem q_appOf_62 : appOf Tryz.prog 62 = (some (33, (20, 336))) := by kernel_rfl
@[go_sem] theorem q_appOf_83 : appOf Tryz.prog 83 = (some (5, (1, 1))) := by kernel_rfl
@[go_sem] theorem q_arrOf_114 : arrOf Tryz.prog 114 = (some (5, (false, 1))) := by kernel_rfl
@[go_sem] theorem q_bldOf_103 : bldOf Tryz.prog 103 = (some ([.nils, (.d (.int .i64 (0 : Int)))], [(0, 1), (1, 1)])) := by kernel_rfl
@[go_sem] theorem q_bldOf_114 : bldOf Tryz.prog 114 = (some ([(.d (.str (ByteArray.mk (Array.mk [])))), (.d (.str (ByteArray.mk (Array.mk [])))), (.d (.str (ByteArray.mk (Array.mk [])))), (.d (.str (ByteArray.mk (Array.mk [])))), (.d (.str (ByteArray.mk (Array.mk []))))], [(0, 1), (1, 1), (2, 1), (3, 1), (4, 1)])) := by kernel_rfl
@[go_sem] theorem q_bldOf_175 : bldOf Tryz.prog 175 = (some ([(.d (.int .i64 (0 : Int))), (.d (.str (ByteArray.mk (Array.mk [])))), (.d (.int .i64 (0 : Int)))], [(0, 1), (1, 1), (2, 1)])) := by kernel_rfl
@[go_sem] theorem q_bldOf_28 : bldOf Tryz.prog 28 = (some ([(.d (.int .i64 (0 : Int))), (.d (.str (ByteArray.mk (Array.mk [])))), (.d (.int .i64 (0 : Int))), .nils], [(0, 1), (1, 1), (2, 1), (3, 1)])) := by kernel_rfl
@[go_sem] theorem q_bldOf_31 : bldOf Tryz.prog 31 = (some ([(.d (.int .i64 (0 : Int))), (.d (.int .i64 (0 : Int))), (.d (.str (ByteArray.mk (Array.mk [])))), (.d (.int .i64 (0 : Int))), .nils, (.d (.int .i64 (0 : Int))), (.d (.str (ByteArray.mk (Array.mk [])))), (.d (.int .i64 (0 : Int))), .nils, (.d (.str (ByteArray.mk (Array.mk [])))), .nils, .nils], [(0, 1), (1, 4), (5, 4), (9, 1), (10, 1), (11, 1)])) := by kernel_rfl
@[go_sem] theorem q_bldOf_33 : bldOf Tryz.prog 33 = (some ([(.d (.int .i64 (0 : Int))), (.d (.str (ByteArray.mk (Array.mk [])))), .nils, .nils, .nils, .nils, (.d (.int .i64 (0 : Int))), .nils, (.d (.int .i64 (0 : Int))), (.d (.int .i64 (0 : Int))), (.d (.str (ByteArray.mk (Array.mk [])))), (.d (.int .i64 (0 : Int))), .nils, (.d (.int .i64 (0 : Int))), (.d (.str (ByteArray.mk (Array.mk [])))), (.d (.int .i64 (0 : Int))), .nils, (.d (.str (ByteArray.mk (Array.mk [])))), .nils, .nils], [(0, 1), (1, 1), (2, 1), (3, 1), (4, 1), (5, 1), (6, 1), (7, 1), (8, 12)])) := by kernel_rfl
@[go_sem] theorem q_bldOf_75 : bldOf Tryz.prog 75 = (some ([(.d (.str (ByteArray.mk (Array.mk [])))), .nils], [(0, 1), (1, 1)])) := by kernel_rfl
@[go_sem] theorem q_bsOf_101 : bsOf Tryz.prog 101 = (some (175, (3, false))) := by kernel_rfl
@[go_sem] theorem q_bsOf_22 : bsOf Tryz.prog 22 = (some (9, (1, false))) := by kernel_rfl
@[go_sem] theorem q_bsOf_23 : bsOf Tryz.prog 23 = (some (75, (2, false))) := by kernel_rfl
@[go_sem] theorem q_bsOf_24 : bsOf Tryz.prog 24 = (some (35, (3, false))) := by kernel_rfl
@[go_sem] theorem q_bsOf_26 : bsOf Tryz.prog 26 = (some (28, (4, false))) := by kernel_rfl
@[go_sem] theorem q_bsOf_29 : bsOf Tryz.prog 29 = (some (31, (12, false))) := by kernel_rfl
@[go_sem] theorem q_bsOf_62 : bsOf Tryz.prog 62 = (some (33, (20, false))) := by kernel_rfl
@[go_sem] theorem q_bsOf_83 : bsOf Tryz.prog 83 = (some (5, (1, true))) := by kernel_rfl
@[go_sem] theorem q_callable_10 : callable Tryz.prog 10 = true := by kernel_rfl
@[go_sem] theorem q_callable_11 : callable Tryz.prog 11 = true := by kernel_rfl
@[go_sem] theorem q_callable_112 : callable Tryz.prog 112 = true := by kernel_rfl
@[go_sem] theorem q_callable_114 : callable Tryz.prog 114 = true := by kernel_rfl
@[go_sem] theorem q_callable_115 : callable Tryz.prog 115 = true := by kernel_rfl
@[go_sem] theorem q_callable_116 : callable Tryz.prog 116 = true := by kernel_rfl
@[go_sem] theorem q_callable_118 : callable Tryz.prog 118 = true := by kernel_rfl
@[go_sem] theorem q_callable_12 : callable Tryz.prog 12 = true := by kernel_rfl
@[go_sem] theorem q_callable_122 : callable Tryz.prog 122 = true := by kernel_rfl
@[go_sem] theorem q_callable_125 : callable Tryz.prog 125 = true := by kernel_rfl
@[go_sem] theorem q_callable_13 : callable Tryz.prog 13 = true := by kernel_rfl
@[go_sem] theorem q_callable_14 : callable Tryz.prog 14 = true := by kernel_rfl
@[go_sem] theorem q_callable_156 : callable Tryz.prog 156 = true := by kernel_rfl
@[go_sem] theorem q_callable_157 : callable Tryz.prog 157 = true := by kernel_rfl
@[go_sem] theorem q_callable_192 : callable Tryz.prog 192 = true := by kernel_rfl
@[go_sem] theorem q_callable_193 : callable Tryz.prog 193 = true := by kernel_rfl
@[go_sem] theorem q_callable_194 : callable Tryz.prog 194 = true := by kernel_rfl
@[go_sem] theorem q_callable_195 : callable Tryz.prog 195 = true := by kernel_rfl
@[go_sem] theorem q_callable_197 : callable Tryz.prog 197 = true := by kernel_rfl
@[go_sem] theorem q_callable_198 : callable Tryz.prog 198 = true := by kernel_rfl
@[go_sem] theorem q_callable_199 : callable Tryz.prog 199 = true := by kernel_rfl
@[go_sem] theorem q_callable_21 : callable Tryz.prog 21 = true := by kernel_rfl
@[go_sem] theorem q_callable_219 : callable Tryz.prog 219 = true := by kernel_rfl
@[go_sem] theorem q_callable_22 : callable Tryz.prog 22 = true := by kernel_rfl
@[go_sem] theorem q_callable_23 : callable Tryz.prog 23 = true := by kernel_rfl
@[go_sem] theorem q_callable_25 : callable Tryz.prog 25 = true := by kernel_rfl
@[go_sem] theorem q_callable_26 : callable Tryz.prog 26 = true := by kernel_rfl
@[go_sem] theorem q_callable_27 : callable Tryz.prog 27 = true := by kernel_rfl
@[go_sem] theorem q_callable_29 : callable Tryz.prog 29 = true := by kernel_rfl
@[go_sem] theorem q_callable_30 : callable Tryz.prog 30 = true := by kernel_rfl
@[go_sem] theorem q_callable_31 : callable Tryz.prog 31 = true := by kernel_rfl
@[go_sem] theorem q_callable_32 : callable Tryz.prog 32 = true := by kernel_rfl
@[go_sem] theorem q_callable_33 : callable Tryz.prog 33 = true := by kernel_rfl
@[go_sem] theorem q_callable_34 : callable Tryz.prog 34 = true := by kernel_rfl
@[go_sem] theorem q_callable_35 : callable Tryz.prog 35 = true := by kernel_rfl
@[go_sem] theorem q_callable_36 : callable Tryz.prog 36 = true := by kernel_rfl
@[go_sem] theorem q_callable_37 : callable Tryz.prog 37 = true := by kernel_rfl
@[go_sem] theorem q_callable_38 : callable Tryz.prog 38 = true := by kernel_rfl
@[go_sem] theorem q_callable_39 : callable Tryz.prog 39 = true := by kernel_rfl
@[go_sem] theorem q_callable_41 : callable Tryz.prog 41 = true := by kernel_rfl
@[go_sem] theorem q_callable_47 : callable Tryz.prog 47 = true := by kernel_rfl
@[go_sem] theorem q_callable_49 : callable Tryz.prog 49 = true := by kernel_rfl
@[go_sem] theorem q_callable_50 : callable Tryz.prog 50 = true := by kernel_rfl
@[go_sem] theorem q_callable_51 : callable Tryz.prog 51 = true := by kernel_rfl
@[go_sem] theorem q_callable_52 : callable Tryz.prog 52 = true := by kernel_rfl
@[go_sem] theorem q_callable_53 : callable Tryz.prog 53 = true := by kernel_rfl
@[go_sem] theorem q_callable_54 : callable Tryz.prog 54 = true := by kernel_rfl
@[go_sem] theorem q_callable_6 : callable Tryz.prog 6 = true := by kernel_rfl
@[go_sem] theorem q_callable_68 : callable Tryz.prog 68 = true := by kernel_rfl
@[go_sem] theorem q_callable_7 : callable Tryz.prog 7 = true := by kernel_rfl
@[go_sem] theorem q_callable_70 : callable Tryz.prog 70 = true := by kernel_rfl
@[go_sem] theorem q_callable_71 : callable Tryz.prog 71 = true := by kernel_rfl
@[go_sem] theorem q_callable_72 : callable Tryz.prog 72 = true := by kernel_rfl
@[go_sem] theorem q_callable_73 : callable Tryz.prog 73 = true := by kernel_rfl
@[go_sem] theorem q_callable_74 : callable Tryz.prog 74 = true := by kernel_rfl
@[go_sem] theorem q_callable_75 : callable Tryz.prog 75 = true := by kernel_rfl
@[go_sem] theorem q_callable_77 : callable Tryz.prog 77 = true := by kernel_rfl
@[go_sem] theorem q_callable_78 : callable Tryz.prog 78 = true := by kernel_rfl
@[go_sem] theorem q_callable_8 : callable Tryz.prog 8 = true := by kernel_rfl
@[go_sem] theorem q_callable_80 : callable Tryz.prog 80 = true := by kernel_rfl
@[go_sem] theorem q_callable_81 : callable Tryz.prog 81 = true := by kernel_rfl
@[go_sem] theorem q_callable_83 : callable Tryz.prog 83 = true := by kernel_rfl
@[go_sem] theorem q_callable_84 : callable Tryz.prog 84 = true := by kernel_rfl
@[go_sem] theorem q_callable_85 : callable Tryz.prog 85 = true := by kernel_rfl
@[go_sem] theorem q_callable_9 : callable Tryz.prog 9 = true := by kernel_rfl
@[go_sem] theorem q_convOf_3_5 : convOf Tryz.prog 3 5 = (some (Conv.int .u8)) := by kernel_rfl
@[go_sem] theorem q_convOf_83_9 : convOf Tryz.prog 83 9 = (some Conv.toStr) := by kernel_rfl
@[go_sem] theorem q_errTy_V_55 {eb : Nat → Addr} {mm : Nat → Option Obj} : errTy Tryz.prog (seatZ eb mm) 55 = true := by kernel_rfl
@[go_sem] theorem q_fieldOff_103_0 : fieldOff Tryz.prog 103 0 = (some 0) := by kernel_rfl
@[go_sem] theorem q_fieldOff_103_1 : fieldOff Tryz.prog 103 1 = (some 1) := by kernel_rfl
@[go_sem] theorem q_fieldOff_110_1 : fieldOff Tryz.prog 110 1 = (some 1) := by kernel_rfl
@[go_sem] theorem q_fieldOff_175_0 : fieldOff Tryz.prog 175 0 = (some 0) := by kernel_rfl
@[go_sem] theorem q_fieldOff_175_1 : fieldOff Tryz.prog 175 1 = (some 1) := by kernel_rfl
@[go_sem] theorem q_fieldOff_175_2 : fieldOff Tryz.prog 175 2 = (some 2) := by kernel_rfl
@[go_sem] theorem q_fieldOff_28_0 : fieldOff Tryz.prog 28 0 = (some 0) := by kernel_rfl
@[go_sem] theorem q_fieldOff_28_1 : fieldOff Tryz.prog 28 1 = (some 1) := by kernel_rfl
@[go_sem] theorem q_fieldOff_28_2 : fieldOff Tryz.prog 28 2 = (some 2) := by kernel_rfl
@[go_sem] theorem q_fieldOff_28_3 : fieldOff Tryz.prog 28 3 = (some 3) := by kernel_rfl
@[go_sem] theorem q_fieldOff_31_0 : fieldOff Tryz.prog 31 0 = (some 0) := by kernel_rfl
@[go_sem] theorem q_fieldOff_31_1 : fieldOff Tryz.prog 31 1 = (some 1) := by kernel_rfl
@[go_sem] theorem q_fieldOff_31_2 : fieldOff Tryz.prog 31 2 = (some 5) := by kernel_rfl
@[go_sem] theorem q_fieldOff_31_3 : fieldOff Tryz.prog 31 3 = (some 9) := by kernel_rfl
@[go_sem] theorem q_fieldOff_31_4 : fieldOff Tryz.prog 31 4 = (some 10) := by kernel_rfl
@[go_sem] theorem q_fieldOff_31_5 : fieldOff Tryz.prog 31 5 = (some 11) := by kernel_rfl
@[go_sem] theorem q_fieldOff_33_0 : fieldOff Tryz.prog 33 0 = (some 0) := by kernel_rfl
@[go_sem] theorem q_fieldOff_33_1 : fieldOff Tryz.prog 33 1 = (some 1) := by kernel_rfl
@[go_sem] theorem q_fieldOff_33_2 : fieldOff Tryz.prog 33 2 = (some 2) := by kernel_rfl
@[go_sem] theorem q_fieldOff_33_3 : fieldOff Tryz.prog 33 3 = (some 3) := by kernel_rfl
@[go_sem] theorem q_fieldOff_33_4 : fieldOff Tryz.prog 33 4 = (some 4) := by kernel_rfl
@[go_sem] theorem q_fieldOff_33_5 : fieldOff Tryz.prog 33 5 = (some 5) := by kernel_rfl
@[go_sem] theorem q_fieldOff_33_6 : fieldOff Tryz.prog 33 6 = (some 6) := by kernel_rfl
@[go_sem] theorem q_fieldOff_33_7 : fieldOff Tryz.prog 33 7 = (some 7) := by kernel_rfl
@[go_sem] theorem q_fieldOff_33_8 : fieldOff Tryz.prog 33 8 = (some 8) := by kernel_rfl
@[go_sem] theorem q_fieldOff_35_1 : fieldOff Tryz.prog 35 1 = (some 1) := by kernel_rfl
@[go_sem] theorem q_fieldOff_35_2 : fieldOff Tryz.prog 35 2 = (some 2) := by kernel_rfl
@[go_sem] theorem q_fieldOff_37_0 : fieldOff Tryz.prog 37 0 = (some 0) := by kernel_rfl
@[go_sem] theorem q_fieldOff_37_1 : fieldOff Tryz.prog 37 1 = (some 20) := by kernel_rfl
@[go_sem] theorem q_fieldOff_37_2 : fieldOff Tryz.prog 37 2 = (some 32) := by kernel_rfl
@[go_sem] theorem q_fieldOff_37_3 : fieldOff Tryz.prog 37 3 = (some 36) := by kernel_rfl
@[go_sem] theorem q_fieldOff_75_0 : fieldOff Tryz.prog 75 0 = (some 0) := by kernel_rfl
@[go_sem] theorem q_fieldOff_75_1 : fieldOff Tryz.prog 75 1 = (some 1) := by kernel_rfl
@[go_sem] theorem q_idxOf_101 : idxOf Tryz.prog 101 = (some 3) := by kernel_rfl
@[go_sem] theorem q_idxOf_22 : idxOf Tryz.prog 22 = (some 1) := by kernel_rfl
@[go_sem] theorem q_idxOf_23 : idxOf Tryz.prog 23 = (some 2) := by kernel_rfl
@[go_sem] theorem q_idxOf_24 : idxOf Tryz.prog 24 = (some 3) := by kernel_rfl
@[go_sem] theorem q_idxOf_25 : idxOf Tryz.prog 25 = (some 1) := by kernel_rfl
@[go_sem] theorem q_idxOf_26 : idxOf Tryz.prog 26 = (some 4) := by kernel_rfl
@[go_sem] theorem q_idxOf_29 : idxOf Tryz.prog 29 = (some 12) := by kernel_rfl
@[go_sem] theorem q_idxOf_62 : idxOf Tryz.prog 62 = (some 20) := by kernel_rfl
@[go_sem] theorem q_isIface_55 : isIface Tryz.prog 55 = true := by kernel_rfl
@[go_sem] theorem q_isSliceT_101 : isSliceT Tryz.prog 101 = true := by kernel_rfl
@[go_sem] theorem q_isSliceT_22 : isSliceT Tryz.prog 22 = true := by kernel_rfl
@[go_sem] theorem q_isSliceT_23 : isSliceT Tryz.prog 23 = true := by kernel_rfl
@[go_sem] theorem q_isSliceT_24 : isSliceT Tryz.prog 24 = true := by kernel_rfl
@[go_sem] theorem q_isSliceT_25 : isSliceT Tryz.prog 25 = true := by kernel_rfl
@[go_sem] theorem q_isSliceT_26 : isSliceT Tryz.prog 26 = true := by kernel_rfl
@[go_sem] theorem q_isSliceT_29 : isSliceT Tryz.prog 29 = true := by kernel_rfl
@[go_sem] theorem q_isSliceT_62 : isSliceT Tryz.prog 62 = true := by kernel_rfl
@[go_sem] theorem q_isSliceT_83 : isSliceT Tryz.prog 83 = true := by kernel_rfl
@[go_sem] theorem q_isStrT_9 : isStrT Tryz.prog 9 = true := by kernel_rfl
@[go_sem] theorem q_keyK_3 : keyK Tryz.prog 3 = (some (.one (.int .i64))) := by kernel_rfl
@[go_sem] theorem q_keyK_5 : keyK Tryz.prog 5 = (some (.one (.int .u8))) := by kernel_rfl
@[go_sem] theorem q_keyK_9 : keyK Tryz.prog 9 = (some (.one .str)) := by kernel_rfl
@[go_sem] theorem q_mkOf_22 : mkOf Tryz.prog 22 = (some (9, (1, (16, (.str (ByteArray.mk (Array.mk []))))))) := by kernel_rfl
@[go_sem] theorem q_sameSl_3_5 : sameSl Tryz.prog 3 5 = false := by kernel_rfl
@[go_sem] theorem q_sameSl_83_9 : sameSl Tryz.prog 83 9 = false := by kernel_rfl
@[go_sem] theorem q_sliceOf_9 : sliceOf Tryz.prog 9 = (some none) := by kernel_rfl
@[go_sem] theorem q_tshape_100 : tshape Tryz.prog 100 = (some (false, 1)) := by kernel_rfl
@[go_sem] theorem q_tshape_101 : tshape Tryz.prog 101 = (some (false, 1)) := by kernel_rfl
@[go_sem] theorem q_tshape_114 : tshape Tryz.prog 114 = (some (true, 5)) := by kernel_rfl
@[go_sem] theorem q_tshape_175 : tshape Tryz.prog 175 = (some (true, 3)) := by kernel_rfl
@[go_sem] theorem q_tshape_22 : tshape Tryz.prog 22 = (some (false, 1)) := by kernel_rfl
@[go_sem] theorem q_tshape_23 : tshape Tryz.prog 23 = (some (false, 1)) := by kernel_rfl
@[go_sem] theorem q_tshape_24 : tshape Tryz.prog 24 = (some (false, 1)) := by kernel_rfl
@[go_sem] theorem q_tshape_25 : tshape Tryz.prog 25 = (some (false, 1)) := by kernel_rfl
@[go_sem] theorem q_tshape_26 : tshape Tryz.prog 26 = (some (false, 1)) := by kernel_rfl
@[go_sem] theorem q_tshape_28 : tshape Tryz.prog 28 = (some (true, 4)) := by kernel_rfl
@[go_sem] theorem q_tshape_29 : tshape Tryz.prog 29 = (some (false, 1)) := by kernel_rfl
@[go_sem] theorem q_tshape_3 : tshape Tryz.prog 3 = (some (false, 1)) := by kernel_rfl
@[go_sem] theorem q_tshape_31 : tshape Tryz.prog 31 = (some (true, 12)) := by kernel_rfl
@[go_sem] theorem q_tshape_33 : tshape Tryz.prog 33 = (some (true, 20)) := by kernel_rfl
@[go_sem] theorem q_tshape_35 : tshape Tryz.prog 35 = (some (true, 3)) := by kernel_rfl
@[go_sem] theorem q_tshape_4 : tshape Tryz.prog 4 = (some (false, 1)) := by kernel_rfl
@[go_sem] theorem q_tshape_55 : tshape Tryz.prog 55 = (some (false, 1)) := by kernel_rfl
@[go_sem] theorem q_tshape_62 : tshape Tryz.prog 62 = (some (false, 1)) := by kernel_rfl
@[go_sem] theorem q_tshape_75 : tshape Tryz.prog 75 = (some (true, 2)) := by kernel_rfl
@[go_sem] theorem q_tshape_83 : tshape Tryz.prog 83 = (some (false, 1)) := by kernel_rfl
@[go_sem] theorem q_tshape_9 : tshape Tryz.prog 9 = (some (false, 1)) := by kernel_rfl
@[go_sem] theorem q_zeroOf_101 : zeroOf Tryz.prog 101 = (some [.nils]) := by kernel_rfl
@[go_sem] theorem q_zeroOf_110 : zeroOf Tryz.prog 110 = (some [(.d (.raw (.pointer none))), .nils]) := by kernel_rfl
@[go_sem] theorem q_zeroOf_114 : zeroOf Tryz.prog 114 = (some [(.d (.str (ByteArray.mk (Array.mk [])))), (.d (.str (ByteArray.mk (Array.mk [])))), (.d (.str (ByteArray.mk (Array.mk [])))), (.d (.str (ByteArray.mk (Array.mk [])))), (.d (.str (ByteArray.mk (Array.mk []))))]) := by kernel_rfl
@[go_sem] theorem q_zeroOf_175 : zeroOf Tryz.prog 175 = (some [(.d (.int .i64 (0 : Int))), (.d (.str (ByteArray.mk (Array.mk [])))), (.d (.int .i64 (0 : Int)))]) := by kernel_rfl
@[go_sem] theorem q_zeroOf_28 : zeroOf Tryz.prog 28 = (some [(.d (.int .i64 (0 : Int))), (.d (.str (ByteArray.mk (Array.mk [])))), (.d (.int .i64 (0 : Int))), .nils]) := by kernel_rfl
@[go_sem] theorem q_zeroOf_31 : zeroOf Tryz.prog 31 = (some [(.d (.int .i64 (0 : Int))), (.d (.int .i64 (0 : Int))), (.d (.str (ByteArray.mk (Array.mk [])))), (.d (.int .i64 (0 : Int))), .nils, (.d (.int .i64 (0 : Int))), (.d (.str (ByteArray.mk (Array.mk [])))), (.d (.int .i64 (0 : Int))), .nils, (.d (.str (ByteArray.mk (Array.mk [])))), .nils, .nils]) := by kernel_rfl
@[go_sem] theorem q_zeroOf_33 : zeroOf Tryz.prog 33 = (some [(.d (.int .i64 (0 : Int))), (.d (.str (ByteArray.mk (Array.mk [])))), .nils, .nils, .nils, .nils, (.d (.int .i64 (0 : Int))), .nils, (.d (.int .i64 (0 : Int))), (.d (.int .i64 (0 : Int))), (.d (.str (ByteArray.mk (Array.mk [])))), (.d (.int .i64 (0 : Int))), .nils, (.d (.int .i64 (0 : Int))), (.d (.str (ByteArray.mk (Array.mk [])))), (.d (.int .i64 (0 : Int))), .nils, (.d (.str (ByteArray.mk (Array.mk [])))), .nils, .nils]) := by kernel_rfl
@[go_sem] theorem q_zeroOf_35 : zeroOf Tryz.prog 35 = (some [(.d (.bool false)), (.d (.str (ByteArray.mk (Array.mk [])))), .nils]) := by kernel_rfl
@[go_sem] theorem q_zeroOf_55 : zeroOf Tryz.prog 55 = (some [(.d (.raw .nilIface))]) := by kernel_rfl
@[go_sem] theorem q_zeroOf_62 : zeroOf Tryz.prog 62 = (some [.nils]) := by kernel_rfl
@[go_sem] theorem q_zeroOf_75 : zeroOf Tryz.prog 75 = (some [(.d (.str (ByteArray.mk (Array.mk [])))), .nils]) := by kernel_rfl

def pl3 : List (Nat × Plan) := [(1, (.fl 0 (.fl 1 (.fl 2 (.fl 3 (.fl 4 (.fl 5 (.fl 6 (.fl 7 (.both (.eff 8 [1, 3, 5, 7] (.both (.eff 9 [1, 3, 5, 7] (.both (.eff 10 [1, 3, 5, 7] (.eff 11 [1, 3, 5, 7] (.eff 12 [3, 5, 7] (.eff 13 [5, 7] (.eff 14 [7] (.eff 15 [] .done)))))) (.eff 11 [1, 3, 5, 7] (.eff 10 [1, 3, 5, 7] (.eff 12 [3, 5, 7] (.eff 13 [5, 7] (.eff 14 [7] (.eff 15 [] .done)))))))) (.both (.eff 10 [1, 3, 5, 7] (.both (.eff 9 [1, 3, 5, 7] (.eff 11 [1, 3, 5, 7] (.eff 12 [3, 5, 7] (.eff 13 [5, 7] (.eff 14 [7] (.eff 15 [] .done)))))) (.eff 11 [1, 3, 5, 7] (.eff 9 [1, 3, 5, 7] (.eff 12 [3, 5, 7] (.eff 13 [5, 7] (.eff 14 [7] (.eff 15 [] .done)))))))) (.eff 11 [1, 3, 5, 7] (.both (.eff 9 [1, 3, 5, 7] (.eff 10 [1, 3, 5, 7] (.eff 12 [3, 5, 7] (.eff 13 [5, 7] (.eff 14 [7] (.eff 15 [] .done)))))) (.eff 10 [1, 3, 5, 7] (.eff 9 [1, 3, 5, 7] (.eff 12 [3, 5, 7] (.eff 13 [5, 7] (.eff 14 [7] (.eff 15 [] .done))))))))))) (.both (.eff 9 [1, 3, 5, 7] (.both (.eff 8 [1, 3, 5, 7] (.both (.eff 10 [1, 3, 5, 7] (.eff 11 [1, 3, 5, 7] (.eff 12 [3, 5, 7] (.eff 13 [5, 7] (.eff 14 [7] (.eff 15 [] .done)))))) (.eff 11 [1, 3, 5, 7] (.eff 10 [1, 3, 5, 7] (.eff 12 [3, 5, 7] (.eff 13 [5, 7] (.eff 14 [7] (.eff 15 [] .done)))))))) (.both (.eff 10 [1, 3, 5, 7] (.both (.eff 8 [1, 3, 5, 7] (.eff 11 [1, 3, 5, 7] (.eff 12 [3, 5, 7] (.eff 13 [5, 7] (.eff 14 [7] (.eff 15 [] .done)))))) (.eff 11 [1, 3, 5, 7] (.eff 8 [1, 3, 5, 7] (.eff 12 [3, 5, 7] (.eff 13 [5, 7] (.eff 14 [7] (.eff 15 [] .done)))))))) (.eff 11 [1, 3, 5, 7] (.both (.eff 8 [1, 3, 5, 7] (.eff 10 [1, 3, 5, 7] (.eff 12 [3, 5, 7] (.eff 13 [5, 7] (.eff 14 [7] (.eff 15 [] .done)))))) (.eff 10 [1, 3, 5, 7] (.eff 8 [1, 3, 5, 7] (.eff 12 [3, 5, 7] (.eff 13 [5, 7] (.eff 14 [7] (.eff 15 [] .done))))))))))) (.both (.eff 10 [1, 3, 5, 7] (.both (.eff 8 [1, 3, 5, 7] (.both (.eff 9 [1, 3, 5, 7] (.eff 11 [1, 3, 5, 7] (.eff 12 [3, 5, 7] (.eff 13 [5, 7] (.eff 14 [7] (.eff 15 [] .done)))))) (.eff 11 [1, 3, 5, 7] (.eff 9 [1, 3, 5, 7] (.eff 12 [3, 5, 7] (.eff 13 [5, 7] (.eff 14 [7] (.eff 15 [] .done)))))))) (.both (.eff 9 [1, 3, 5, 7] (.both (.eff 8 [1, 3, 5, 7] (.eff 11 [1, 3, 5, 7] (.eff 12 [3, 5, 7] (.eff 13 [5, 7] (.eff 14 [7] (.eff 15 [] .done)))))) (.eff 11 [1, 3, 5, 7] (.eff 8 [1, 3, 5, 7] (.eff 12 [3, 5, 7] (.eff 13 [5, 7] (.eff 14 [7] (.eff 15 [] .done)))))))) (.eff 11 [1, 3, 5, 7] (.both (.eff 8 [1, 3, 5, 7] (.eff 9 [1, 3, 5, 7] (.eff 12 [3, 5, 7] (.eff 13 [5, 7] (.eff 14 [7] (.eff 15 [] .done)))))) (.eff 9 [1, 3, 5, 7] (.eff 8 [1, 3, 5, 7] (.eff 12 [3, 5, 7] (.eff 13 [5, 7] (.eff 14 [7] (.eff 15 [] .done))))))))))) (.eff 11 [1, 3, 5, 7] (.both (.eff 8 [1, 3, 5, 7] (.both (.eff 9 [1, 3, 5, 7] (.eff 10 [1, 3, 5, 7] (.eff 12 [3, 5, 7] (.eff 13 [5, 7] (.eff 14 [7] (.eff 15 [] .done)))))) (.eff 10 [1, 3, 5, 7] (.eff 9 [1, 3, 5, 7] (.eff 12 [3, 5, 7] (.eff 13 [5, 7] (.eff 14 [7] (.eff 15 [] .done)))))))) (.both (.eff 9 [1, 3, 5, 7] (.both (.eff 8 [1, 3, 5, 7] (.eff 10 [1, 3, 5, 7] (.eff 12 [3, 5, 7] (.eff 13 [5, 7] (.eff 14 [7] (.eff 15 [] .done)))))) (.eff 10 [1, 3, 5, 7] (.eff 8 [1, 3, 5, 7] (.eff 12 [3, 5, 7] (.eff 13 [5, 7] (.eff 14 [7] (.eff 15 [] .done)))))))) (.eff 10 [1, 3, 5, 7] (.both (.eff 8 [1, 3, 5, 7] (.eff 9 [1, 3, 5, 7] (.eff 12 [3, 5, 7] (.eff 13 [5, 7] (.eff 14 [7] (.eff 15 [] .done)))))) (.eff 9 [1, 3, 5, 7] (.eff 8 [1, 3, 5, 7] (.eff 12 [3, 5, 7] (.eff 13 [5, 7] (.eff 14 [7] (.eff 15 [] .done))))))))))))))))))))))), (4, (.fl 0 (.fl 2 (.eff 1 [2] (.eff 3 [] (.fl 4 (.fl 5 (.fl 6 (.fl 8 (.eff 7 [8] (.eff 9 [] (.fl 10 (.fl 11 (.fl 12 (.fl 13 (.fl 15 (.eff 14 [15] (.eff 16 [] (.fl 17 (.fl 18 (.fl 19 (.fl 20 (.fl 22 (.eff 21 [22] (.eff 23 [] (.fl 24 (.fl 25 (.fl 26 .done))))))))))))))))))))))))))))]
def kp3 : List (Nat × List Nat) := [(0, [0]), (1, [1]), (2, [3, 4, 5, 6]), (3, []), (4, [3, 4, 5, 6])]
noncomputable def s3 : SCode := toS (planAt pl3) (keepAt kp3) (Tryz.f3.body.getD .skip)
theorem fn3 : FnIs Tryz.prog 3 43 [.tmp 2] s3 := FnIs.mk' (planAt pl3) (keepAt kp3) (by kernel_rfl)
def pl6 : List (Nat × Plan) := []
def kp6 : List (Nat × List Nat) := [(0, []), (1, []), (2, [1, 2])]
noncomputable def s6 : SCode := toS (planAt pl6) (keepAt kp6) (Tryz.f6.body.getD .skip)
theorem fn6 : FnIs Tryz.prog 6 19 [.tmp 0] s6 := FnIs.mk' (planAt pl6) (keepAt kp6) (by kernel_rfl)
def pl7 : List (Nat × Plan) := [(4, (.fl 0 (.fl 1 (.fl 2 (.fl 3 (.fl 4 (.fl 8 (.fl 9 (.eff 5 [1, 9] (.fl 6 (.fl 7 (.eff 10 [1] (.fl 11 (.fl 12 .done)))))))))))))), (6, (.fl 0 (.fl 1 (.fl 2 (.fl 3 (.fl 4 (.eff 5 [1] (.fl 6 (.fl 7 .done))))))))), (8, (.fl 0 (.fl 1 (.fl 2 (.fl 3 (.fl 4 (.fl 8 (.fl 9 (.eff 5 [1, 9] (.fl 6 (.fl 7 (.eff 10 [1] (.fl 11 (.fl 12 .done)))))))))))))), (10, (.fl 0 (.fl 1 (.fl 2 (.fl 3 (.eff 4 [1] (.fl 5 (.fl 6 .done))))))))]
def kp7 : List (Nat × List Nat) := [(0, [0]), (1, [1]), (2, [1, 3]), (3, [1, 3, 5]), (4, [1]), (5, [1, 3, 5]), (6, [1]), (7, [1, 3, 5]), (8, [1]), (9, [1, 3, 5]), (10, [1]), (11, [1, 3]), (12, [1, 3]), (13, [3])]
noncomputable def s7 : SCode := toS (planAt pl7) (keepAt kp7) (Tryz.f7.body.getD .skip)
theorem fn7 : FnIs Tryz.prog 7 63 [.tmp 2] s7 := FnIs.mk' (planAt pl7) (keepAt kp7) (by kernel_rfl)
def pl8 : List (Nat × Plan) := [(8, (.fl 0 (.fl 1 (.fl 2 (.fl 3 (.fl 4 (.eff 5 [2] (.eff 6 [2] (.fl 7 (.eff 8 [] (.eff 9 [] (.eff 10 [] .done)))))))))))), (10, (.fl 0 (.fl 1 (.fl 2 (.fl 3 (.fl 4 (.fl 8 (.eff 5 [1] (.fl 6 (.fl 7 (.eff 9 [1] (.fl 10 (.fl 11 .done))))))))))))), (12, (.fl 0 (.fl 1 (.fl 2 (.fl 3 (.fl 4 (.eff 5 [1] (.eff 6 [1] (.fl 7 (.fl 8 .done)))))))))), (23, (.fl 0 (.fl 1 (.fl 2 (.fl 3 (.eff 4 [1] (.fl 5 (.fl 6 (.fl 7 .done))))))))), (27, (.fl 0 (.fl 1 (.fl 2 (.fl 3 (.eff 4 [1] (.eff 5 [1] (.fl 6 (.fl 7 .done)))))))))]
def kp8 : List (Nat × List Nat) := [(0, [0]), (1, [1]), (2, [1, 3]), (3, [1, 3, 12]), (4, [1]), (5, [1, 4]), (6, [1, 4, 17, 18, 19]), (7, [1, 4, 17, 18, 19]), (8, [1, 4, 6, 17, 18, 19]), (9, [1, 4, 17, 18, 19]), (10, [1, 4]), (11, [1, 3, 12]), (12, [1]), (13, [1, 3, 12]), (14, [1]), (15, [1, 7]), (16, [1, 7, 59, 60, 61]), (17, [1, 7, 59, 60, 61]), (18, [1, 7, 9, 59, 60, 61]), (19, [1, 7, 9, 10, 59, 60, 61]), (20, [1, 7, 59, 60, 61]), (21, [1, 7, 10, 59, 60, 61]), (22, [1, 7, 59, 60, 61]), (23, [1, 7]), (24, [1, 3]), (25, [1, 3]), (26, [1, 3, 12]), (27, [1]), (28, [1, 3]), (29, [1, 3]), (30, [3])]
noncomputable def s8 : SCode := toS (planAt pl8) (keepAt kp8) (Tryz.f8.body.getD .skip)
theorem fn8 : FnIs Tryz.prog 8 115 [.tmp 2] s8 := FnIs.mk' (planAt pl8) (keepAt kp8) (by kernel_rfl)
def pl9 : List (Nat × Plan) := [(7, (.fl 0 (.fl 1 (.fl 4 (.fl 5 (.eff 2 [5] (.fl 3 (.eff 6 [] (.fl 7 (.fl 8 .done)))))))))), (9, (.fl 0 (.fl 1 (.fl 2 (.fl 3 (.eff 4 [1] (.fl 5 (.fl 6 .done)))))))), (19, (.fl 0 (.fl 4 (.fl 5 (.fl 8 (.eff 1 [5, 8] (.fl 2 (.fl 3 (.fl 6 (.fl 7 (.eff 9 [5] (.fl 10 (.fl 11 .done)))))))))))))]
def kp9 : List (Nat × List Nat) := [(0, [0]), (1, [1]), (2, [1, 4]), (3, []), (4, [1, 4]), (5, []), (6, [1, 4]), (7, [1]), (8, [1, 4]), (9, [1]), (10, [1, 4]), (11, [1]), (12, [1, 4]), (13, [1]), (14, [1, 4]), (15, [1]), (16, [1, 4]), (17, [1]), (18, [1, 4]), (19, [1]), (20, [])]
noncomputable def s9 : SCode := toS (planAt pl9) (keepAt kp9) (Tryz.f9.body.getD .skip)
theorem fn9 : FnIs Tryz.prog 9 59 [.tmp 2] s9 := FnIs.mk' (planAt pl9) (keepAt kp9) (by kernel_rfl)
def pl10 : List (Nat × Plan) := [(18, (.fl 0 (.fl 1 (.fl 4 (.fl 5 (.eff 2 [5] (.fl 3 (.eff 6 [] (.fl 7 (.fl 8 .done)))))))))), (20, (.fl 0 (.fl 1 (.fl 2 (.fl 3 (.eff 4 [1] (.eff 5 [1] (.fl 6 (.fl 7 .done)))))))))]
def kp10 : List (Nat × List Nat) := [(0, [0]), (1, [1]), (2, [1, 3]), (3, [1, 3, 10, 11, 12]), (4, [1, 3, 10, 11, 12]), (5, [1, 3, 5, 10, 11, 12]), (6, [1, 3, 10, 11, 12]), (7, [1, 3]), (8, [1, 3, 6, 7]), (9, [1, 3, 7]), (10, [1, 3, 6, 7]), (11, [1, 3, 6]), (12, [1, 3, 6, 7]), (13, [1, 3, 6, 7, 37]), (14, []), (15, [1, 3, 6, 7, 37]), (16, []), (17, [1, 3, 6, 7, 37]), (18, [1]), (19, [1, 3, 6, 7, 37]), (20, [1]), (21, [1, 3, 6, 7, 37]), (22, [3]), (23, [1, 3, 6, 7, 37]), (24, [3]), (25, [1, 6, 7, 37]), (26, [6]), (27, [1, 6, 7, 37]), (28, [1]), (29, [1, 6, 7, 37]), (30, [1, 6, 7]), (31, [])]
noncomputable def s10 : SCode := toS (planAt pl10) (keepAt kp10) (Tryz.f10.body.getD .skip)
theorem fn10 : FnIs Tryz.prog 10 90 [.tmp 2] s10 := FnIs.mk' (planAt pl10) (keepAt kp10) (by kernel_rfl)
def pl11 : List (Nat × Plan) := [(2, (.fl 0 (.fl 1 (.fl 3 (.fl 4 (.eff 2 [4] (.eff 5 [] (.fl 6 (.fl 7 .done))))))))), (3, (.fl 0 (.fl 1 (.fl 2 (.fl 3 (.eff 4 [1] (.fl 5 (.fl 6 .done))))))))]
def kp11 : List (Nat × List Nat) := [(0, [0]), (1, [1]), (2, [1]), (3, [1])]
noncomputable def s11 : SCode := toS (planAt pl11) (keepAt kp11) (Tryz.f11.body.getD .skip)
theorem fn11 : FnIs Tryz.prog 11 19 [.tmp 2] s11 := FnIs.mk' (planAt pl11) (keepAt kp11) (by kernel_rfl)
def pl12 : List (Nat × Plan) := []
def kp12 : List (Nat × List Nat) := [(0, [0]), (1, [1]), (2, [1, 3]), (3, [1]), (4, [1, 3])]
noncomputable def s12 : SCode := toS (planAt pl12) (keepAt kp12) (Tryz.f12.body.getD .skip)
theorem fn12 : FnIs Tryz.prog 12 18 [.tmp 2] s12 := FnIs.mk' (planAt pl12) (keepAt kp12) (by kernel_rfl)
def pl13 : List (Nat × Plan) := [(1, (.fl 0 (.fl 1 (.fl 2 (.fl 3 (.eff 4 [1] (.fl 5 (.fl 6 .done))))))))]
def kp13 : List (Nat × List Nat) := [(0, [0]), (1, [1])]
noncomputable def s13 : SCode := toS (planAt pl13) (keepAt kp13) (Tryz.f13.body.getD .skip)
theorem fn13 : FnIs Tryz.prog 13 9 [.tmp 2] s13 := FnIs.mk' (planAt pl13) (keepAt kp13) (by kernel_rfl)
def pl14 : List (Nat × Plan) := [(1, (.fl 0 (.fl 1 (.fl 2 (.fl 3 (.eff 4 [1] (.eff 5 [1] (.fl 6 (.fl 7 .done)))))))))]
def kp14 : List (Nat × List Nat) := [(0, [0]), (1, [1])]
noncomputable def s14 : SCode := toS (planAt pl14) (keepAt kp14) (Tryz.f14.body.getD .skip)
theorem fn14 : FnIs Tryz.prog 14 10 [.tmp 2] s14 := FnIs.mk' (planAt pl14) (keepAt kp14) (by kernel_rfl)
def pl21 : List (Nat × Plan) := []
def kp21 : List (Nat × List Nat) := [(0, [0]), (1, [0])]
noncomputable def s21 : SCode := toS (planAt pl21) (keepAt kp21) (Tryz.f21.body.getD .skip)
theorem fn21 : FnIs Tryz.prog 21 8 [.tmp 2, .tmp 3] s21 := FnIs.mk' (planAt pl21) (keepAt kp21) (by kernel_rfl)
def pl22 : List (Nat × Plan) := []
def kp22 : List (Nat × List Nat) := [(0, [0]), (1, [0]), (2, [0, 3]), (3, [3, 6, 7, 8]), (4, [3, 6, 7, 8]), (5, [3, 5, 6, 7, 8]), (6, [3, 6, 7, 8]), (7, [3])]
noncomputable def s22 : SCode := toS (planAt pl22) (keepAt kp22) (Tryz.f22.body.getD .skip)
theorem fn22 : FnIs Tryz.prog 22 17 [.tmp 2] s22 := FnIs.mk' (planAt pl22) (keepAt kp22) (by kernel_rfl)
def pl23 : List (Nat × Plan) := []
def kp23 : List (Nat × List Nat) := [(0, [0, 1]), (1, [0, 1]), (2, []), (3, [0, 1]), (4, [0, 1, 5]), (5, [1, 5, 14, 15, 16]), (6, [1, 5, 14, 15, 16]), (7, [1, 5, 6, 7, 14, 15, 16]), (8, [1, 5, 14, 15, 16]), (9, [5])]
noncomputable def s23 : SCode := toS (planAt pl23) (keepAt kp23) (Tryz.f23.body.getD .skip)
theorem fn23 : FnIs Tryz.prog 23 32 [.tmp 4] s23 := FnIs.mk' (planAt pl23) (keepAt kp23) (by kernel_rfl)
def pl24 : List (Nat × Plan) := []
def kp24 : List (Nat × List Nat) := [(0, [0]), (1, [0])]
noncomputable def s24 : SCode := toS (planAt pl24) (keepAt kp24) (Tryz.f24.body.getD .skip)
theorem fn24 : FnIs Tryz.prog 24 4 [.tmp 2] s24 := FnIs.mk' (planAt pl24) (keepAt kp24) (by kernel_rfl)
def pl25 : List (Nat × Plan) := [(5, (.fl 0 (.fl 1 (.fl 2 (.fl 3 (.fl 4 (.fl 5 (.eff 6 [3] (.fl 7 (.fl 8 (.eff 9 [] .done)))))))))))]
def kp25 : List (Nat × List Nat) := [(0, [0]), (1, [0]), (2, [0, 3]), (3, [3, 9, 10, 11]), (4, [3, 9, 10, 11]), (5, [3, 4, 5, 9, 10, 11]), (6, [3, 9, 10, 11]), (7, [3])]
noncomputable def s25 : SCode := toS (planAt pl25) (keepAt kp25) (Tryz.f25.body.getD .skip)
theorem fn25 : FnIs Tryz.prog 25 28 [.tmp 2] s25 := FnIs.mk' (planAt pl25) (keepAt kp25) (by kernel_rfl)
def pl26 : List (Nat × Plan) := []
def kp26 : List (Nat × List Nat) := [(0, [0, 1]), (1, [0, 1]), (2, []), (3, [0, 1]), (4, [0, 1, 5]), (5, [1, 5, 14, 15, 16]), (6, [1, 5, 14, 15, 16]), (7, [1, 5, 6, 7, 14, 15, 16]), (8, [1, 5, 14, 15, 16]), (9, [5])]
noncomputable def s26 : SCode := toS (planAt pl26) (keepAt kp26) (Tryz.f26.body.getD .skip)
theorem fn26 : FnIs Tryz.prog 26 32 [.tmp 4] s26 := FnIs.mk' (planAt pl26) (keepAt kp26) (by kernel_rfl)
def pl27 : List (Nat × Plan) := []
def kp27 : List (Nat × List Nat) := [(0, [0, 1]), (1, [0, 1]), (2, []), (3, [0, 1]), (4, [0, 1, 5]), (5, [1, 5, 14, 15, 16]), (6, [1, 5, 14, 15, 16]), (7, [1, 5, 6, 7, 14, 15, 16]), (8, [1, 5, 14, 15, 16]), (9, [5])]
noncomputable def s27 : SCode := toS (planAt pl27) (keepAt kp27) (Tryz.f27.body.getD .skip)
theorem fn27 : FnIs Tryz.prog 27 32 [.tmp 4] s27 := FnIs.mk' (planAt pl27) (keepAt kp27) (by kernel_rfl)
def pl28 : List (Nat × Plan) := []
def kp28 : List (Nat × List Nat) := [(0, [0]), (1, [0]), (2, []), (3, [])]
noncomputable def s28 : SCode := toS (planAt pl28) (keepAt kp28) (Tryz.f28.body.getD .skip)
theorem fn28 : FnIs Tryz.prog 28 4 [.tmp 2] s28 := FnIs.mk' (planAt pl28) (keepAt kp28) (by kernel_rfl)
def pl29 : List (Nat × Plan) := []
def kp29 : List (Nat × List Nat) := [(0, [0]), (1, [0]), (2, [0, 3]), (3, []), (4, [0, 3])]
noncomputable def s29 : SCode := toS (planAt pl29) (keepAt kp29) (Tryz.f29.body.getD .skip)
theorem fn29 : FnIs Tryz.prog 29 14 [.tmp 2] s29 := FnIs.mk' (planAt pl29) (keepAt kp29) (by kernel_rfl)
def pl30 : List (Nat × Plan) := []
def kp30 : List (Nat × List Nat) := [(0, [0, 1]), (1, [0, 1]), (2, []), (3, [0, 1]), (4, [0, 1, 5]), (5, [1, 5, 14, 15, 16]), (6, [1, 5, 14, 15, 16]), (7, [1, 5, 6, 7, 14, 15, 16]), (8, [1, 5, 14, 15, 16]), (9, [5])]
noncomputable def s30 : SCode := toS (planAt pl30) (keepAt kp30) (Tryz.f30.body.getD .skip)
theorem fn30 : FnIs Tryz.prog 30 32 [.tmp 4] s30 := FnIs.mk' (planAt pl30) (keepAt kp30) (by kernel_rfl)
def pl31 : List (Nat × Plan) := []
def kp31 : List (Nat × List Nat) := [(0, [0]), (1, [0]), (2, []), (3, [0])]
noncomputable def s31 : SCode := toS (planAt pl31) (keepAt kp31) (Tryz.f31.body.getD .skip)
theorem fn31 : FnIs Tryz.prog 31 10 [.tmp 2] s31 := FnIs.mk' (planAt pl31) (keepAt kp31) (by kernel_rfl)
def pl32 : List (Nat × Plan) := []
def kp32 : List (Nat × List Nat) := [(0, [0]), (1, [0]), (2, [0, 3]), (3, [3, 7, 8, 9]), (4, [3, 7, 8, 9]), (5, [3, 5, 7, 8, 9]), (6, [3, 7, 8, 9]), (7, [3])]
noncomputable def s32 : SCode := toS (planAt pl32) (keepAt kp32) (Tryz.f32.body.getD .skip)
theorem fn32 : FnIs Tryz.prog 32 20 [.tmp 2] s32 := FnIs.mk' (planAt pl32) (keepAt kp32) (by kernel_rfl)
def pl33 : List (Nat × Plan) := []
def kp33 : List (Nat × List Nat) := [(0, [0, 1]), (1, [0, 1]), (2, [0, 1, 5]), (3, [1, 5, 8, 9, 10]), (4, [1, 5, 8, 9, 10]), (5, [1, 5, 6, 7, 8, 9, 10]), (6, [1, 5, 7, 8, 9, 10]), (7, [1, 5, 7, 8, 9, 10]), (8, [1, 5, 8, 9, 10]), (9, [5])]
noncomputable def s33 : SCode := toS (planAt pl33) (keepAt kp33) (Tryz.f33.body.getD .skip)
theorem fn33 : FnIs Tryz.prog 33 25 [.tmp 4] s33 := FnIs.mk' (planAt pl33) (keepAt kp33) (by kernel_rfl)
def pl34 : List (Nat × Plan) := []
def kp34 : List (Nat × List Nat) := [(0, [0]), (1, [0]), (2, [0, 3]), (3, [3, 7, 8, 9]), (4, [3, 7, 8, 9]), (5, [3, 5, 7, 8, 9]), (6, [3, 7, 8, 9]), (7, [3])]
noncomputable def s34 : SCode := toS (planAt pl34) (keepAt kp34) (Tryz.f34.body.getD .skip)
theorem fn34 : FnIs Tryz.prog 34 20 [.tmp 2] s34 := FnIs.mk' (planAt pl34) (keepAt kp34) (by kernel_rfl)
def pl35 : List (Nat × Plan) := []
def kp35 : List (Nat × List Nat) := [(0, [0, 1]), (1, [1, 2]), (2, [1, 2, 5]), (3, [1, 2, 5, 13, 14, 15]), (4, [1, 2, 5, 13, 14, 15]), (5, [1, 2, 5, 6, 7, 13, 14, 15]), (6, [1, 2, 5, 13, 14, 15]), (7, [1, 5])]
noncomputable def s35 : SCode := toS (planAt pl35) (keepAt kp35) (Tryz.f35.body.getD .skip)
theorem fn35 : FnIs Tryz.prog 35 31 [.tmp 4] s35 := FnIs.mk' (planAt pl35) (keepAt kp35) (by kernel_rfl)
def pl36 : List (Nat × Plan) := [(3, (.fl 0 (.fl 1 (.fl 2 (.fl 3 (.fl 4 (.fl 5 (.fl 6 (.eff 7 [] (.fl 8 .done))))))))))]
def kp36 : List (Nat × List Nat) := [(0, [0, 1]), (1, [1, 2]), (2, []), (3, [1, 2])]
noncomputable def s36 : SCode := toS (planAt pl36) (keepAt kp36) (Tryz.f36.body.getD .skip)
theorem fn36 : FnIs Tryz.prog 36 18 [.tmp 4] s36 := FnIs.mk' (planAt pl36) (keepAt kp36) (by kernel_rfl)
def pl37 : List (Nat × Plan) := []
def kp37 : List (Nat × List Nat) := [(0, [0, 1]), (1, [0, 3]), (2, [0, 3, 5]), (3, [3, 5, 6]), (4, [3]), (5, [3, 5, 6]), (6, [3, 5, 6]), (7, [3, 5, 6]), (8, [3]), (9, [3, 5]), (10, [3]), (11, [3])]
noncomputable def s37 : SCode := toS (planAt pl37) (keepAt kp37) (Tryz.f37.body.getD .skip)
theorem fn37 : FnIs Tryz.prog 37 31 [.tmp 4] s37 := FnIs.mk' (planAt pl37) (keepAt kp37) (by kernel_rfl)
def pl39 : List (Nat × Plan) := []
def kp39 : List (Nat × List Nat) := [(0, [0]), (1, [0]), (2, [0, 3]), (3, [0, 3, 4]), (4, [0, 3, 4, 5]), (5, [0, 3, 4, 5]), (6, [0, 3, 4, 5]), (7, [0, 3, 4]), (8, [0, 3, 4]), (9, [0, 3]), (10, [3]), (11, [3])]
noncomputable def s39 : SCode := toS (planAt pl39) (keepAt kp39) (Tryz.f39.body.getD .skip)
theorem fn39 : FnIs Tryz.prog 39 29 [.tmp 2] s39 := FnIs.mk' (planAt pl39) (keepAt kp39) (by kernel_rfl)
def pl47 : List (Nat × Plan) := [(3, (.fl 0 (.fl 1 (.eff 2 [1] (.eff 3 [] .done)))))]
def kp47 : List (Nat × List Nat) := [(0, [0, 1]), (1, [0, 1, 4, 5]), (2, [1, 4, 5, 6]), (3, [4, 5]), (4, [1, 4, 5, 6]), (5, [1, 4, 5, 6]), (6, [1, 4, 5, 6, 7]), (7, [4, 5, 6, 7]), (8, [4, 5, 7]), (9, [4, 5])]
noncomputable def s47 : SCode := toS (planAt pl47) (keepAt kp47) (Tryz.f47.body.getD .skip)
theorem fn47 : FnIs Tryz.prog 47 35 [.cell 4 62, .cell 5 55] s47 := FnIs.mk' (planAt pl47) (keepAt kp47) (by kernel_rfl)
def pl48 : List (Nat × Plan) := [(2, (.fl 0 (.fl 1 (.fl 2 (.fl 3 (.fl 4 (.fl 5 (.fl 6 (.fl 7 (.fl 8 (.fl 9 .done)))))))))))]
def kp48 : List (Nat × List Nat) := [(0, [0]), (1, [0]), (2, [0, 3]), (3, [0, 3]), (4, [0, 3]), (5, [0, 3]), (6, [0, 3]), (7, [3])]
noncomputable def s48 : SCode := toS (planAt pl48) (keepAt kp48) (Tryz.f48.body.getD .skip)
theorem fn48 : FnIs Tryz.prog 48 28 [.tmp 2] s48 := FnIs.mk' (planAt pl48) (keepAt kp48) (by kernel_rfl)
def pl50 : List (Nat × Plan) := [(2, (.fl 0 (.fl 2 (.fl 3 (.both (.eff 1 [2, 3] (.both (.eff 4 [0, 2] (.both (.eff 5 [] (.both (.eff 6 [] (.eff 7 [0, 2, 3] (.eff 8 [] .done))) (.eff 7 [0, 2, 3] (.eff 6 [] (.eff 8 [] .done))))) (.eff 7 [0, 2, 3] (.eff 5 [] (.eff 6 [] (.eff 8 [] .done)))))) (.eff 7 [0, 2, 3] (.eff 4 [0, 2] (.eff 5 [] (.eff 6 [] (.eff 8 [] .done))))))) (.both (.eff 4 [0, 2] (.both (.eff 1 [2, 3] (.both (.eff 5 [] (.both (.eff 6 [] (.eff 7 [0, 2, 3] (.eff 8 [] .done))) (.eff 7 [0, 2, 3] (.eff 6 [] (.eff 8 [] .done))))) (.eff 7 [0, 2, 3] (.eff 5 [] (.eff 6 [] (.eff 8 [] .done)))))) (.eff 7 [0, 2, 3] (.eff 1 [2, 3] (.eff 5 [] (.eff 6 [] (.eff 8 [] .done))))))) (.eff 7 [0, 2, 3] (.both (.eff 1 [2, 3] (.eff 4 [0, 2] (.eff 5 [] (.eff 6 [] (.eff 8 [] .done))))) (.eff 4 [0, 2] (.eff 1 [2, 3] (.eff 5 [] (.eff 6 [] (.eff 8 [] .done))))))))))))), (4, (.fl 0 (.fl 1 (.fl 2 (.eff 3 [1] (.eff 4 [1] (.eff 5 [] (.fl 6 (.eff 7 [] .done))))))))), (6, (.fl 0 (.fl 1 (.fl 2 (.eff 3 [1] (.eff 4 [1] (.eff 5 [] (.fl 6 (.eff 7 [] .done))))))))), (9, (.fl 0 (.fl 2 (.both (.eff 1 [2] (.eff 3 [0, 2] (.eff 4 [] (.eff 5 [] (.eff 6 [] .done))))) (.eff 3 [0, 2] (.eff 1 [2] (.eff 4 [] (.eff 5 [] (.eff 6 [] .done))))))))), (11, (.fl 0 (.fl 2 (.fl 3 (.both (.eff 1 [2, 3] (.both (.eff 4 [0, 2] (.both (.eff 5 [] (.both (.eff 6 [] (.eff 7 [0, 2, 3] (.eff 8 [] .done))) (.eff 7 [0, 2, 3] (.eff 6 [] (.eff 8 [] .done))))) (.eff 7 [0, 2, 3] (.eff 5 [] (.eff 6 [] (.eff 8 [] .done)))))) (.eff 7 [0, 2, 3] (.eff 4 [0, 2] (.eff 5 [] (.eff 6 [] (.eff 8 [] .done))))))) (.both (.eff 4 [0, 2] (.both (.eff 1 [2, 3] (.both (.eff 5 [] (.both (.eff 6 [] (.eff 7 [0, 2, 3] (.eff 8 [] .done))) (.eff 7 [0, 2, 3] (.eff 6 [] (.eff 8 [] .done))))) (.eff 7 [0, 2, 3] (.eff 5 [] (.eff 6 [] (.eff 8 [] .done)))))) (.eff 7 [0, 2, 3] (.eff 1 [2, 3] (.eff 5 [] (.eff 6 [] (.eff 8 [] .done))))))) (.eff 7 [0, 2, 3] (.both (.eff 1 [2, 3] (.eff 4 [0, 2] (.eff 5 [] (.eff 6 [] (.eff 8 [] .done))))) (.eff 4 [0, 2] (.eff 1 [2, 3] (.eff 5 [] (.eff 6 [] (.eff 8 [] .done))))))))))))), (15, (.fl 0 (.fl 2 (.both (.eff 1 [2] (.both (.eff 3 [0, 2] (.both (.eff 4 [] (.both (.eff 5 [0, 2] (.both (.eff 6 [] (.eff 7 [0, 2] (.eff 8 [] .done))) (.eff 7 [0, 2] (.eff 6 [] (.eff 8 [] .done))))) (.eff 7 [0, 2] (.eff 5 [0, 2] (.eff 6 [] (.eff 8 [] .done)))))) (.both (.eff 5 [0, 2] (.both (.eff 4 [] (.both (.eff 6 [] (.eff 7 [0, 2] (.eff 8 [] .done))) (.eff 7 [0, 2] (.eff 6 [] (.eff 8 [] .done))))) (.eff 7 [0, 2] (.eff 4 [] (.eff 6 [] (.eff 8 [] .done)))))) (.eff 7 [0, 2] (.both (.eff 4 [] (.eff 5 [0, 2] (.eff 6 [] (.eff 8 [] .done)))) (.eff 5 [0, 2] (.eff 4 [] (.eff 6 [] (.eff 8 [] .done))))))))) (.both (.eff 5 [0, 2] (.both (.eff 3 [0, 2] (.both (.eff 4 [] (.both (.eff 6 [] (.eff 7 [0, 2] (.eff 8 [] .done))) (.eff 7 [0, 2] (.eff 6 [] (.eff 8 [] .done))))) (.eff 7 [0, 2] (.eff 4 [] (.eff 6 [] (.eff 8 [] .done)))))) (.eff 7 [0, 2] (.eff 3 [0, 2] (.eff 4 [] (.eff 6 [] (.eff 8 [] .done))))))) (.eff 7 [0, 2] (.both (.eff 3 [0, 2] (.both (.eff 4 [] (.eff 5 [0, 2] (.eff 6 [] (.eff 8 [] .done)))) (.eff 5 [0, 2] (.eff 4 [] (.eff 6 [] (.eff 8 [] .done)))))) (.eff 5 [0, 2] (.eff 3 [0, 2] (.eff 4 [] (.eff 6 [] (.eff 8 [] .done)))))))))) (.both (.eff 3 [0, 2] (.both (.eff 1 [2] (.both (.eff 4 [] (.both (.eff 5 [0, 2] (.both (.eff 6 [] (.eff 7 [0, 2] (.eff 8 [] .done))) (.eff 7 [0, 2] (.eff 6 [] (.eff 8 [] .done))))) (.eff 7 [0, 2] (.eff 5 [0, 2] (.eff 6 [] (.eff 8 [] .done)))))) (.both (.eff 5 [0, 2] (.both (.eff 4 [] (.both (.eff 6 [] (.eff 7 [0, 2] (.eff 8 [] .done))) (.eff 7 [0, 2] (.eff 6 [] (.eff 8 [] .done))))) (.eff 7 [0, 2] (.eff 4 [] (.eff 6 [] (.eff 8 [] .done)))))) (.eff 7 [0, 2] (.both (.eff 4 [] (.eff 5 [0, 2] (.eff 6 [] (.eff 8 [] .done)))) (.eff 5 [0, 2] (.eff 4 [] (.eff 6 [] (.eff 8 [] .done))))))))) (.both (.eff 5 [0, 2] (.both (.eff 1 [2] (.both (.eff 4 [] (.both (.eff 6 [] (.eff 7 [0, 2] (.eff 8 [] .done))) (.eff 7 [0, 2] (.eff 6 [] (.eff 8 [] .done))))) (.eff 7 [0, 2] (.eff 4 [] (.eff 6 [] (.eff 8 [] .done)))))) (.eff 7 [0, 2] (.eff 1 [2] (.eff 4 [] (.eff 6 [] (.eff 8 [] .done))))))) (.eff 7 [0, 2] (.both (.eff 1 [2] (.both (.eff 4 [] (.eff 5 [0, 2] (.eff 6 [] (.eff 8 [] .done)))) (.eff 5 [0, 2] (.eff 4 [] (.eff 6 [] (.eff 8 [] .done)))))) (.eff 5 [0, 2] (.eff 1 [2] (.eff 4 [] (.eff 6 [] (.eff 8 [] .done)))))))))) (.both (.eff 5 [0, 2] (.both (.eff 1 [2] (.both (.eff 3 [0, 2] (.both (.eff 4 [] (.both (.eff 6 [] (.eff 7 [0, 2] (.eff 8 [] .done))) (.eff 7 [0, 2] (.eff 6 [] (.eff 8 [] .done))))) (.eff 7 [0, 2] (.eff 4 [] (.eff 6 [] (.eff 8 [] .done)))))) (.eff 7 [0, 2] (.eff 3 [0, 2] (.eff 4 [] (.eff 6 [] (.eff 8 [] .done))))))) (.both (.eff 3 [0, 2] (.both (.eff 1 [2] (.both (.eff 4 [] (.both (.eff 6 [] (.eff 7 [0, 2] (.eff 8 [] .done))) (.eff 7 [0, 2] (.eff 6 [] (.eff 8 [] .done))))) (.eff 7 [0, 2] (.eff 4 [] (.eff 6 [] (.eff 8 [] .done)))))) (.eff 7 [0, 2] (.eff 1 [2] (.eff 4 [] (.eff 6 [] (.eff 8 [] .done))))))) (.eff 7 [0, 2] (.both (.eff 1 [2] (.eff 3 [0, 2] (.eff 4 [] (.eff 6 [] (.eff 8 [] .done))))) (.eff 3 [0, 2] (.eff 1 [2] (.eff 4 [] (.eff 6 [] (.eff 8 [] .done)))))))))) (.eff 7 [0, 2] (.both (.eff 1 [2] (.both (.eff 3 [0, 2] (.both (.eff 4 [] (.eff 5 [0, 2] (.eff 6 [] (.eff 8 [] .done)))) (.eff 5 [0, 2] (.eff 4 [] (.eff 6 [] (.eff 8 [] .done)))))) (.eff 5 [0, 2] (.eff 3 [0, 2] (.eff 4 [] (.eff 6 [] (.eff 8 [] .done))))))) (.both (.eff 3 [0, 2] (.both (.eff 1 [2] (.both (.eff 4 [] (.eff 5 [0, 2] (.eff 6 [] (.eff 8 [] .done)))) (.eff 5 [0, 2] (.eff 4 [] (.eff 6 [] (.eff 8 [] .done)))))) (.eff 5 [0, 2] (.eff 1 [2] (.eff 4 [] (.eff 6 [] (.eff 8 [] .done))))))) (.eff 5 [0, 2] (.both (.eff 1 [2] (.eff 3 [0, 2] (.eff 4 [] (.eff 6 [] (.eff 8 [] .done))))) (.eff 3 [0, 2] (.eff 1 [2] (.eff 4 [] (.eff 6 [] (.eff 8 [] .done))))))))))))))))]
def kp50 : List (Nat × List Nat) := [(0, [0]), (1, [1, 2]), (2, [1, 2]), (3, [1, 2, 3]), (4, [1, 2, 3]), (5, [1, 2, 3]), (6, [1, 2, 3]), (7, [2, 3]), (8, [1, 2]), (9, [1, 2]), (10, [1, 2]), (11, [1, 2]), (12, [1, 2, 4]), (13, [1, 2, 4]), (14, [2, 4]), (15, [1, 2]), (16, [1, 2, 5]), (17, [1, 2, 5]), (18, [2, 5])]
noncomputable def s50 : SCode := toS (planAt pl50) (keepAt kp50) (Tryz.f50.body.getD .skip)
theorem fn50 : FnIs Tryz.prog 50 73 [.cell 2 33] s50 := FnIs.mk' (planAt pl50) (keepAt kp50) (by kernel_rfl)
def pl51 : List (Nat × Plan) := []
def kp51 : List (Nat × List Nat) := [(0, [0, 1]), (1, [0])]
noncomputable def s51 : SCode := toS (planAt pl51) (keepAt kp51) (Tryz.f51.body.getD .skip)
theorem fn51 : FnIs Tryz.prog 51 11 [] s51 := FnIs.mk' (planAt pl51) (keepAt kp51) (by kernel_rfl)
def pl52 : List (Nat × Plan) := []
def kp52 : List (Nat × List Nat) := [(0, [0, 1]), (1, [0, 1]), (2, [0, 1]), (3, [1])]
noncomputable def s52 : SCode := toS (planAt pl52) (keepAt kp52) (Tryz.f52.body.getD .skip)
theorem fn52 : FnIs Tryz.prog 52 19 [.tmp 4, .tmp 5] s52 := FnIs.mk' (planAt pl52) (keepAt kp52) (by kernel_rfl)
def pl53 : List (Nat × Plan) := [(1, (.fl 0 (.fl 1 (.fl 2 (.fl 3 (.fl 5 (.fl 6 (.fl 7 (.fl 8 (.fl 9 (.eff 4 [8, 9] (.eff 10 [] (.fl 11 .done)))))))))))))]
def kp53 : List (Nat × List Nat) := [(0, [0]), (1, [0])]
noncomputable def s53 : SCode := toS (planAt pl53) (keepAt kp53) (Tryz.f53.body.getD .skip)
theorem fn53 : FnIs Tryz.prog 53 14 [.tmp 2] s53 := FnIs.mk' (planAt pl53) (keepAt kp53) (by kernel_rfl)
def pl54 : List (Nat × Plan) := []
def kp54 : List (Nat × List Nat) := [(0, [0, 1]), (1, [0, 3]), (2, [0, 3, 5]), (3, [5, 6]), (4, [5]), (5, [5])]
noncomputable def s54 : SCode := toS (planAt pl54) (keepAt kp54) (Tryz.f54.body.getD .skip)
theorem fn54 : FnIs Tryz.prog 54 26 [.tmp 4] s54 := FnIs.mk' (planAt pl54) (keepAt kp54) (by kernel_rfl)
def pl68 : List (Nat × Plan) := [(2, (.fl 0 (.fl 1 (.fl 2 .done)))), (6, (.fl 0 (.fl 1 (.fl 2 .done))))]
def kp68 : List (Nat × List Nat) := [(0, [0]), (1, [0]), (2, []), (3, [0]), (4, [0, 4]), (5, [4, 5]), (6, []), (7, [4])]
noncomputable def s68 : SCode := toS (planAt pl68) (keepAt kp68) (Tryz.f68.body.getD .skip)
theorem fn68 : FnIs Tryz.prog 68 17 [.tmp 2, .tmp 3] s68 := FnIs.mk' (planAt pl68) (keepAt kp68) (by kernel_rfl)
def pl70 : List (Nat × Plan) := []
def kp70 : List (Nat × List Nat) := [(0, [0, 1]), (1, [0, 1]), (2, [0]), (3, []), (4, [])]
noncomputable def s70 : SCode := toS (planAt pl70) (keepAt kp70) (Tryz.f70.body.getD .skip)
theorem fn70 : FnIs Tryz.prog 70 15 [.tmp 4] s70 := FnIs.mk' (planAt pl70) (keepAt kp70) (by kernel_rfl)
def pl71 : List (Nat × Plan) := []
def kp71 : List (Nat × List Nat) := [(0, [0]), (1, [0]), (2, [0, 3]), (3, [0, 3]), (4, [0, 3]), (5, [3])]
noncomputable def s71 : SCode := toS (planAt pl71) (keepAt kp71) (Tryz.f71.body.getD .skip)
theorem fn71 : FnIs Tryz.prog 71 26 [.tmp 2] s71 := FnIs.mk' (planAt pl71) (keepAt kp71) (by kernel_rfl)
def pl72 : List (Nat × Plan) := [(4, (.fl 0 (.fl 1 (.fl 2 (.fl 3 (.fl 4 (.fl 5 (.fl 6 (.fl 7 (.fl 8 (.fl 9 (.fl 10 (.fl 11 (.fl 12 (.fl 13 (.fl 14 .done))))))))))))))))]
def kp72 : List (Nat × List Nat) := [(0, [0, 1]), (1, [0, 1]), (2, []), (3, [0, 1]), (4, [0, 1, 5]), (5, [0, 1, 5]), (6, [0, 1, 5]), (7, [0, 1, 5]), (8, [5]), (9, [0, 1, 5])]
noncomputable def s72 : SCode := toS (planAt pl72) (keepAt kp72) (Tryz.f72.body.getD .skip)
theorem fn72 : FnIs Tryz.prog 72 37 [.tmp 4] s72 := FnIs.mk' (planAt pl72) (keepAt kp72) (by kernel_rfl)
def pl73 : List (Nat × Plan) := []
def kp73 : List (Nat × List Nat) := [(0, [0]), (1, [0]), (2, [0, 3]), (3, [0, 3]), (4, [0, 3]), (5, [3])]
noncomputable def s73 : SCode := toS (planAt pl73) (keepAt kp73) (Tryz.f73.body.getD .skip)
theorem fn73 : FnIs Tryz.prog 73 21 [.tmp 2] s73 := FnIs.mk' (planAt pl73) (keepAt kp73) (by kernel_rfl)
def pl74 : List (Nat × Plan) := []
def kp74 : List (Nat × List Nat) := [(0, [0]), (1, [1, 2]), (2, [1, 2, 3])]
noncomputable def s74 : SCode := toS (planAt pl74) (keepAt kp74) (Tryz.f74.body.getD .skip)
theorem fn74 : FnIs Tryz.prog 74 11 [.cell 2 75] s74 := FnIs.mk' (planAt pl74) (keepAt kp74) (by kernel_rfl)
def pl75 : List (Nat × Plan) := [(4, (.fl 0 (.fl 1 (.fl 2 (.fl 3 (.fl 4 (.fl 5 (.fl 6 (.fl 7 (.fl 8 (.fl 9 (.fl 10 (.fl 11 (.fl 12 (.fl 13 (.fl 14 .done))))))))))))))))]
def kp75 : List (Nat × List Nat) := [(0, [0, 1]), (1, [0, 1]), (2, []), (3, [0, 1]), (4, [0, 1, 5]), (5, [0, 1, 5]), (6, [0, 1, 5]), (7, [0, 1, 5]), (8, [5]), (9, [0, 1, 5])]
noncomputable def s75 : SCode := toS (planAt pl75) (keepAt kp75) (Tryz.f75.body.getD .skip)
theorem fn75 : FnIs Tryz.prog 75 37 [.tmp 4] s75 := FnIs.mk' (planAt pl75) (keepAt kp75) (by kernel_rfl)
def pl76 : List (Nat × Plan) := []
def kp76 : List (Nat × List Nat) := [(0, [0]), (1, [0, 1])]
noncomputable def s76 : SCode := toS (planAt pl76) (keepAt kp76) (Tryz.f76.body.getD .skip)
theorem fn76 : FnIs Tryz.prog 76 4 [.cell 1 35] s76 := FnIs.mk' (planAt pl76) (keepAt kp76) (by kernel_rfl)
def pl81 : List (Nat × Plan) := [(4, (.fl 0 (.fl 1 (.fl 2 (.fl 3 (.fl 4 (.fl 5 (.fl 6 (.fl 7 (.fl 8 (.fl 9 (.fl 10 (.fl 11 (.fl 12 (.fl 13 (.fl 14 .done))))))))))))))))]
def kp81 : List (Nat × List Nat) := [(0, [0, 1]), (1, [0, 1]), (2, []), (3, [0, 1]), (4, [0, 1, 5]), (5, [0, 1, 5]), (6, [0, 1, 5]), (7, [0, 1, 5]), (8, [5]), (9, [0, 1, 5])]
noncomputable def s81 : SCode := toS (planAt pl81) (keepAt kp81) (Tryz.f81.body.getD .skip)
theorem fn81 : FnIs Tryz.prog 81 37 [.tmp 4] s81 := FnIs.mk' (planAt pl81) (keepAt kp81) (by kernel_rfl)
def pl82 : List (Nat × Plan) := []
def kp82 : List (Nat × List Nat) := [(0, [0]), (1, [0, 1])]
noncomputable def s82 : SCode := toS (planAt pl82) (keepAt kp82) (Tryz.f82.body.getD .skip)
theorem fn82 : FnIs Tryz.prog 82 4 [.cell 1 28] s82 := FnIs.mk' (planAt pl82) (keepAt kp82) (by kernel_rfl)
def pl83 : List (Nat × Plan) := []
def kp83 : List (Nat × List Nat) := [(0, [0, 1]), (1, [2, 3, 4]), (2, [2, 3, 4]), (3, [2, 3, 4, 5]), (4, [2, 3, 4, 5, 13]), (5, [2, 4, 5]), (6, [4, 5]), (7, [2, 3, 4, 5, 13]), (8, [2, 4, 5]), (9, [4, 5]), (10, [2, 3, 4]), (11, [2, 3, 4, 6])]
noncomputable def s83 : SCode := toS (planAt pl83) (keepAt kp83) (Tryz.f83.body.getD .skip)
theorem fn83 : FnIs Tryz.prog 83 45 [.cell 4 28] s83 := FnIs.mk' (planAt pl83) (keepAt kp83) (by kernel_rfl)
def pl84 : List (Nat × Plan) := []
def kp84 : List (Nat × List Nat) := [(0, [0, 1]), (1, [2, 3, 4])]
noncomputable def s84 : SCode := toS (planAt pl84) (keepAt kp84) (Tryz.f84.body.getD .skip)
theorem fn84 : FnIs Tryz.prog 84 8 [.cell 4 31] s84 := FnIs.mk' (planAt pl84) (keepAt kp84) (by kernel_rfl)
def pl112 : List (Nat × Plan) := []
def kp112 : List (Nat × List Nat) := [(0, [0, 1]), (1, [0, 1]), (2, [0, 1, 5]), (3, [0, 1, 5]), (4, [0, 1, 5, 6, 7]), (5, []), (6, [0, 1, 5, 6]), (7, [])]
noncomputable def s112 : SCode := toS (planAt pl112) (keepAt kp112) (Tryz.f112.body.getD .skip)
theorem fn112 : FnIs Tryz.prog 112 36 [.tmp 4] s112 := FnIs.mk' (planAt pl112) (keepAt kp112) (by kernel_rfl)
def pl113 : List (Nat × Plan) := []
def kp113 : List (Nat × List Nat) := [(0, [1, 2]), (1, [2, 4]), (2, [])]
noncomputable def s113 : SCode := toS (planAt pl113) (keepAt kp113) (Tryz.f113.body.getD .skip)
theorem fn113 : FnIs Tryz.prog 113 10 [.tmp 5] s113 := FnIs.mk' (planAt pl113) (keepAt kp113) (by kernel_rfl)
def pl114 : List (Nat × Plan) := []
def kp114 : List (Nat × List Nat) := [(0, [0, 1]), (1, [0, 1]), (2, [1, 5])]
noncomputable def s114 : SCode := toS (planAt pl114) (keepAt kp114) (Tryz.f114.body.getD .skip)
theorem fn114 : FnIs Tryz.prog 114 22 [.tmp 4] s114 := FnIs.mk' (planAt pl114) (keepAt kp114) (by kernel_rfl)
def pl115 : List (Nat × Plan) := [(1, (.fl 0 (.fl 1 (.fl 2 (.fl 3 (.fl 4 (.fl 5 (.fl 6 (.fl 7 (.fl 8 (.fl 9 .done))))))))))), (2, (.fl 0 (.fl 1 (.fl 2 (.fl 3 (.fl 4 (.fl 5 (.fl 6 (.fl 7 (.fl 8 (.fl 9 (.eff 10 [] .done))))))))))))]
def kp115 : List (Nat × List Nat) := [(0, [0]), (1, [0, 2]), (2, [0, 2]), (3, [2])]
noncomputable def s115 : SCode := toS (planAt pl115) (keepAt kp115) (Tryz.f115.body.getD .skip)
theorem fn115 : FnIs Tryz.prog 115 24 [.cell 2 175] s115 := FnIs.mk' (planAt pl115) (keepAt kp115) (by kernel_rfl)
def pl116 : List (Nat × Plan) := []
def kp116 : List (Nat × List Nat) := [(0, [0]), (1, [0]), (2, [3]), (3, [3]), (4, [3]), (5, [3]), (6, [3]), (7, [3]), (8, [3]), (9, [3]), (10, [3]), (11, [3]), (12, [3]), (13, [3]), (14, [3]), (15, [3]), (16, [3]), (17, [3]), (18, [3]), (19, [3]), (20, []), (21, [])]
noncomputable def s116 : SCode := toS (planAt pl116) (keepAt kp116) (Tryz.f116.body.getD .skip)
theorem fn116 : FnIs Tryz.prog 116 23 [.tmp 2] s116 := FnIs.mk' (planAt pl116) (keepAt kp116) (by kernel_rfl)
def pl117 : List (Nat × Plan) := []
def kp117 : List (Nat × List Nat) := [(0, [0]), (1, [0, 1])]
noncomputable def s117 : SCode := toS (planAt pl117) (keepAt kp117) (Tryz.f117.body.getD .skip)
theorem fn117 : FnIs Tryz.prog 117 4 [.cell 1 35] s117 := FnIs.mk' (planAt pl117) (keepAt kp117) (by kernel_rfl)
def pl118 : List (Nat × Plan) := [(0, (.fl 0 (.fl 1 (.fl 2 (.fl 3 (.fl 4 (.fl 5 (.fl 6 (.fl 7 (.fl 8 (.fl 9 (.fl 10 (.fl 11 (.fl 12 (.fl 13 .done)))))))))))))))]
def kp118 : List (Nat × List Nat) := [(0, [0, 1]), (1, [0])]
noncomputable def s118 : SCode := toS (planAt pl118) (keepAt kp118) (Tryz.f118.body.getD .skip)
theorem fn118 : FnIs Tryz.prog 118 21 [] s118 := FnIs.mk' (planAt pl118) (keepAt kp118) (by kernel_rfl)
def pl119 : List (Nat × Plan) := []
def kp119 : List (Nat × List Nat) := [(0, [0]), (1, [0, 2]), (2, [0, 2, 3]), (3, [2, 3])]
noncomputable def s119 : SCode := toS (planAt pl119) (keepAt kp119) (Tryz.f119.body.getD .skip)
theorem fn119 : FnIs Tryz.prog 119 14 [.cell 2 175] s119 := FnIs.mk' (planAt pl119) (keepAt kp119) (by kernel_rfl)
def pl121 : List (Nat × Plan) := []
def kp121 : List (Nat × List Nat) := [(0, [0, 1]), (1, [0, 1, 2])]
noncomputable def s121 : SCode := toS (planAt pl121) (keepAt kp121) (Tryz.f121.body.getD .skip)
theorem fn121 : FnIs Tryz.prog 121 7 [.cell 2 28] s121 := FnIs.mk' (planAt pl121) (keepAt kp121) (by kernel_rfl)
def pl122 : List (Nat × Plan) := []
def kp122 : List (Nat × List Nat) := [(0, [0, 1, 2, 3]), (1, [0, 1, 2, 3, 8]), (2, [0, 1, 2, 3, 8, 9]), (3, [0, 1, 2, 3, 8, 9]), (4, [1, 8, 9]), (5, [8, 9]), (6, [1, 8, 9])]
noncomputable def s122 : SCode := toS (planAt pl122) (keepAt kp122) (Tryz.f122.body.getD .skip)
theorem fn122 : FnIs Tryz.prog 122 30 [.cell 8 31] s122 := FnIs.mk' (planAt pl122) (keepAt kp122) (by kernel_rfl)
def pl123 : List (Nat × Plan) := []
def kp123 : List (Nat × List Nat) := [(0, [0, 1]), (1, [0, 1, 2])]
noncomputable def s123 : SCode := toS (planAt pl123) (keepAt kp123) (Tryz.f123.body.getD .skip)
theorem fn123 : FnIs Tryz.prog 123 6 [.cell 2 31] s123 := FnIs.mk' (planAt pl123) (keepAt kp123) (by kernel_rfl)
def pl124 : List (Nat × Plan) := []
def kp124 : List (Nat × List Nat) := [(0, [0, 1]), (1, [0, 1, 2])]
noncomputable def s124 : SCode := toS (planAt pl124) (keepAt kp124) (Tryz.f124.body.getD .skip)
theorem fn124 : FnIs Tryz.prog 124 6 [.cell 2 31] s124 := FnIs.mk' (planAt pl124) (keepAt kp124) (by kernel_rfl)
def pl125 : List (Nat × Plan) := [(15, (.fl 0 (.fl 1 (.fl 2 (.fl 3 (.fl 4 (.eff 5 [1] (.eff 6 [] (.eff 7 [] (.eff 8 [] .done)))))))))), (22, (.fl 0 (.fl 1 (.fl 2 (.fl 3 (.eff 4 [0] (.eff 5 [] (.eff 6 [] .done))))))))]
def kp125 : List (Nat × List Nat) := [(0, [0, 1]), (1, [0, 1, 4]), (2, [0, 1, 4]), (3, [4]), (4, [0, 1, 4]), (5, [4]), (6, [0, 1, 4]), (7, [0, 1, 4]), (8, [0, 1, 4]), (9, [0, 1, 4]), (10, [0, 1, 4]), (11, [0, 1, 4]), (12, [0, 1, 4, 5]), (13, [0, 1, 4, 5]), (14, [0, 1, 4, 5, 6]), (15, [0, 1, 4, 5, 6]), (16, [0, 1, 4]), (17, [0, 1, 4]), (18, [0, 4, 7]), (19, [4, 7]), (20, [0, 1, 4]), (21, [0, 1, 4, 8]), (22, [0, 1, 4, 8]), (23, [0, 4, 8]), (24, [0, 4, 8]), (25, [4, 8])]
noncomputable def s125 : SCode := toS (planAt pl125) (keepAt kp125) (Tryz.f125.body.getD .skip)
theorem fn125 : FnIs Tryz.prog 125 91 [.cell 4 31] s125 := FnIs.mk' (planAt pl125) (keepAt kp125) (by kernel_rfl)
def pl156 : List (Nat × Plan) := []
def kp156 : List (Nat × List Nat) := [(0, [0, 1]), (1, [0, 1]), (2, [0, 1]), (3, [0, 1, 12]), (4, [0, 1, 12]), (5, [0, 1, 12]), (6, [0, 1, 12]), (7, [0, 1]), (8, [0, 1, 12]), (9, [0, 1]), (10, [0, 1, 5]), (11, [0]), (12, [0, 1, 5]), (13, [1]), (14, [1])]
noncomputable def s156 : SCode := toS (planAt pl156) (keepAt kp156) (Tryz.f156.body.getD .skip)
theorem fn156 : FnIs Tryz.prog 156 35 [.tmp 4] s156 := FnIs.mk' (planAt pl156) (keepAt kp156) (by kernel_rfl)
def pl157 : List (Nat × Plan) := []
def kp157 : List (Nat × List Nat) := [(0, [0, 1]), (1, [0, 1, 4]), (2, [0, 1, 4, 6]), (3, [0, 1, 4, 6]), (4, [0, 1, 4, 6]), (5, [4, 6, 7]), (6, [4, 6, 7, 8]), (7, [4, 7]), (8, [4, 7, 8]), (9, [0, 1, 4, 6]), (10, [0, 1, 4, 6]), (11, [0, 1, 4]), (12, [0, 1, 4, 6]), (13, [4]), (14, [0, 1, 4, 6]), (15, [0, 1, 4]), (16, [4])]
noncomputable def s157 : SCode := toS (planAt pl157) (keepAt kp157) (Tryz.f157.body.getD .skip)
theorem fn157 : FnIs Tryz.prog 157 60 [.cell 4 175, .tmp 5] s157 := FnIs.mk' (planAt pl157) (keepAt kp157) (by kernel_rfl)
def pl193 : List (Nat × Plan) := []
def kp193 : List (Nat × List Nat) := [(0, [0]), (1, [0])]
noncomputable def s193 : SCode := toS (planAt pl193) (keepAt kp193) (Tryz.f193.body.getD .skip)
theorem fn193 : FnIs Tryz.prog 193 9 [.tmp 2] s193 := FnIs.mk' (planAt pl193) (keepAt kp193) (by kernel_rfl)
def pl194 : List (Nat × Plan) := []
def kp194 : List (Nat × List Nat) := [(0, [0]), (1, [0])]
noncomputable def s194 : SCode := toS (planAt pl194) (keepAt kp194) (Tryz.f194.body.getD .skip)
theorem fn194 : FnIs Tryz.prog 194 13 [.tmp 2] s194 := FnIs.mk' (planAt pl194) (keepAt kp194) (by kernel_rfl)
def pl195 : List (Nat × Plan) := []
def kp195 : List (Nat × List Nat) := [(0, [0, 1, 2]), (1, [0, 1, 2]), (2, [0, 1, 2, 7]), (3, [0, 1, 2, 7]), (4, [1, 7])]
noncomputable def s195 : SCode := toS (planAt pl195) (keepAt kp195) (Tryz.f195.body.getD .skip)
theorem fn195 : FnIs Tryz.prog 195 25 [.tmp 6] s195 := FnIs.mk' (planAt pl195) (keepAt kp195) (by kernel_rfl)
def pl196 : List (Nat × Plan) := []
def kp196 : List (Nat × List Nat) := [(0, [0]), (1, [0])]
noncomputable def s196 : SCode := toS (planAt pl196) (keepAt kp196) (Tryz.f196.body.getD .skip)
theorem fn196 : FnIs Tryz.prog 196 13 [.tmp 2] s196 := FnIs.mk' (planAt pl196) (keepAt kp196) (by kernel_rfl)
def pl197 : List (Nat × Plan) := []
def kp197 : List (Nat × List Nat) := [(0, [0]), (1, [0])]
noncomputable def s197 : SCode := toS (planAt pl197) (keepAt kp197) (Tryz.f197.body.getD .skip)
theorem fn197 : FnIs Tryz.prog 197 9 [.tmp 2] s197 := FnIs.mk' (planAt pl197) (keepAt kp197) (by kernel_rfl)
def pl199 : List (Nat × Plan) := []
def kp199 : List (Nat × List Nat) := [(0, [0, 1]), (1, [0, 1])]
noncomputable def s199 : SCode := toS (planAt pl199) (keepAt kp199) (Tryz.f199.body.getD .skip)
theorem fn199 : FnIs Tryz.prog 199 8 [.tmp 4] s199 := FnIs.mk' (planAt pl199) (keepAt kp199) (by kernel_rfl)
def pl219 : List (Nat × Plan) := []
def kp219 : List (Nat × List Nat) := [(0, [0, 1]), (1, [0, 1])]
noncomputable def s219 : SCode := toS (planAt pl219) (keepAt kp219) (Tryz.f219.body.getD .skip)
theorem fn219 : FnIs Tryz.prog 219 18 [.tmp 4] s219 := FnIs.mk' (planAt pl219) (keepAt kp219) (by kernel_rfl)
end Go.Aug

/- The parser's deferred closure where the parser returns: it does nothing that is seen. -/
namespace Go.Aug
open Go.Proofs Go.RowKit
set_option maxRecDepth 100000

theorem func69 : Tryz.prog.funcs[69]? = some Tryz.f69 := by kernel_rfl
theorem ntmps69 : Tryz.f69.ntmps = 14 := by kernel_rfl
theorem results69 : Tryz.f69.results = #[] := by kernel_rfl
theorem under134 : (Tryz.prog.underlying 134).map (fun u => match u with | .struct _ => true | _ => false) = some true := by kernel_rfl
theorem zero134 : (Tryz.prog.info? 134).map (fun i => (i.zero, i.size)) = some (some (.agg #[.nilIface]), 1) := by kernel_rfl

theorem assert134 (w : World) : (Instr.typeAssert .nilIface 20 134 true).run Tryz.prog w = .ok (.tuple #[.agg #[.nilIface], .bool false]) w := by
  have h1 := under134
  have h2 := zero134
  cases hu : Tryz.prog.underlying 134 with
  | none => rw [hu] at h1; cases h1
  | some u =>
    cases hi : Tryz.prog.info? 134 with
    | none => rw [hi] at h2; cases h2
    | some i =>
      rw [hu] at h1; rw [hi] at h2
      simp only [Option.map_some, Option.some.injEq, Prod.mk.injEq] at h1 h2
      cases u with
      | struct fs => simp [Instr.typeAssert, run_underlying hu, zeroValue, typeInfo, hi, h2.1]
      | _ => cases h1

theorem idle69 : IdleD Tryz.prog 2 69 := by
  intro cv w hcv
  obtain ⟨l⟩ := cv
  match l, hcv with
  | [p, q], _ =>
  refine callsD_of_wpS func69 rfl fun c₀ cs hu => ?_
  apply wpS_seq
  apply wpS_region
  have hta := assert134
  simp [wpOpsS, go_sem, recoverD, hu, ntmps69, Exit.thenS, hta]
  apply wpS_seq
  apply wpS_region
  simp [wpOpsS, go_sem, Exit.thenS]
  refine wpS_cond (t := false) (by simp [Act.eval, Array.replicate]) ?_
  simp only [Bool.false_eq_true, if_false]
  refine wpS_of_wp (wp_skip ?_)
  have hb : Below w.heap.size w ((w.alloc (Obj.cells #[Value.nilIface] 134)).setCell { block := w.heap.size, off := 0 } Value.nilIface) := ((Below.refl w.heap.size w).alloc (Nat.le_refl _) _).setCell (Nat.le_refl _) _
  cases c₀
  simp_all [bodyPostS, results, results69]
end Go.Aug
