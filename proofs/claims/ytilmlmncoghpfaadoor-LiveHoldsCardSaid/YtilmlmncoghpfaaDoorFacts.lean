/- The facts of the program's types and its functions in short form, by the kernel; no conditions. -/
import Derived.Test.YtilmlmncoghpfaaDoorAugFour
import Derived.Test.YtilmlmncoghpfaaDoorProg
import Derived.KernelRfl
set_option linter.all false
set_option linter.unusedVariables false
set_option linter.unusedSimpArgs false
set_option linter.unusedSectionVars false

/- The facts of the program's types and functions that the reckoning asks; by program (gen2.py). -/
namespace Go.Aug
open Go.Proofs
set_option maxRecDepth 100000

/-- The one sentinel is ErrCode. -/
def seatV (eb : Nat → Addr) : Env := ⟨139, 156, eb, fun g => if g = 0 then some (.sent 0) else none⟩
@[go_sem] theorem seatV_G0 {eb : Nat → Addr} : (seatV eb).G 0 = some (.sent 0) := Eq.trans rfl rfl

theorem mixed : Tryd.prog.follows .mixedOrders = true := by kernel_rfl
@[go_sem] theorem q_appOf_22 : appOf Tryd.prog 22 = (some (47, (4, 56))) := by kernel_rfl
@[go_sem] theorem q_appOf_23 : appOf Tryd.prog 23 = (some (4, (1, 1))) := by kernel_rfl
@[go_sem] theorem q_appOf_27 : appOf Tryd.prog 27 = (some (3, (1, 8))) := by kernel_rfl
@[go_sem] theorem q_appOf_32 : appOf Tryd.prog 32 = (some (27, (1, 24))) := by kernel_rfl
@[go_sem] theorem q_appOf_54 : appOf Tryd.prog 54 = (some (83, (20, 336))) := by kernel_rfl
@[go_sem] theorem q_appOf_73 : appOf Tryd.prog 73 = (some (9, (1, 16))) := by kernel_rfl
@[go_sem] theorem q_appOf_74 : appOf Tryd.prog 74 = (some (108, (2, 40))) := by kernel_rfl
@[go_sem] theorem q_appOf_75 : appOf Tryd.prog 75 = (some (111, (3, 48))) := by kernel_rfl
@[go_sem] theorem q_appOf_76 : appOf Tryd.prog 76 = (some (78, (4, 56))) := by kernel_rfl
@[go_sem] theorem q_appOf_79 : appOf Tryd.prog 79 = (some (81, (12, 184))) := by kernel_rfl
@[go_sem] theorem q_appOf_96 : appOf Tryd.prog 96 = (some (127, (3, 32))) := by kernel_rfl
@[go_sem] theorem q_bldOf_108 : bldOf Tryd.prog 108 = (some ([(.d (.str (ByteArray.mk (Array.mk [])))), .nils], [(0, 1), (1, 1)])) := by kernel_rfl
@[go_sem] theorem q_bldOf_111 : bldOf Tryd.prog 111 = (some ([(.d (.bool false)), (.d (.str (ByteArray.mk (Array.mk [])))), .nils], [(0, 1), (1, 1), (2, 1)])) := by kernel_rfl
@[go_sem] theorem q_bldOf_127 : bldOf Tryd.prog 127 = (some ([(.d (.int .i64 (0 : Int))), (.d (.str (ByteArray.mk (Array.mk [])))), (.d (.int .i64 (0 : Int)))], [(0, 1), (1, 1), (2, 1)])) := by kernel_rfl
@[go_sem] theorem q_bldOf_26 : bldOf Tryd.prog 26 = (some ([(.d (.str (ByteArray.mk (Array.mk [])))), .nils, .nils, (.d (.int .i64 (0 : Int))), .nils, .nils], [(0, 1), (1, 1), (2, 1), (3, 1), (4, 1), (5, 1)])) := by kernel_rfl
@[go_sem] theorem q_bldOf_40 : bldOf Tryd.prog 40 = (some ([(.d (.int .i64 (0 : Int))), (.d (.int .i64 (0 : Int))), (.d (.int .i64 (0 : Int))), (.d (.int .i64 (0 : Int))), (.d (.int .i64 (0 : Int))), (.d (.int .i64 (0 : Int))), .nils, .nils, .nils], [(0, 1), (1, 1), (2, 1), (3, 1), (4, 1), (5, 1), (6, 1), (7, 1), (8, 1)])) := by kernel_rfl
@[go_sem] theorem q_bldOf_47 : bldOf Tryd.prog 47 = (some ([(.d (.int .i64 (0 : Int))), (.d (.str (ByteArray.mk (Array.mk [])))), (.d (.int .i64 (0 : Int))), .nils], [(0, 1), (1, 1), (2, 1), (3, 1)])) := by kernel_rfl
@[go_sem] theorem q_bldOf_56 : bldOf Tryd.prog 56 = (some ([.nils, .nils], [(0, 1), (1, 1)])) := by kernel_rfl
@[go_sem] theorem q_bldOf_78 : bldOf Tryd.prog 78 = (some ([(.d (.int .i64 (0 : Int))), (.d (.str (ByteArray.mk (Array.mk [])))), (.d (.int .i64 (0 : Int))), .nils], [(0, 1), (1, 1), (2, 1), (3, 1)])) := by kernel_rfl
@[go_sem] theorem q_bldOf_81 : bldOf Tryd.prog 81 = (some ([(.d (.int .i64 (0 : Int))), (.d (.int .i64 (0 : Int))), (.d (.str (ByteArray.mk (Array.mk [])))), (.d (.int .i64 (0 : Int))), .nils, (.d (.int .i64 (0 : Int))), (.d (.str (ByteArray.mk (Array.mk [])))), (.d (.int .i64 (0 : Int))), .nils, (.d (.str (ByteArray.mk (Array.mk [])))), .nils, .nils], [(0, 1), (1, 4), (5, 4), (9, 1), (10, 1), (11, 1)])) := by kernel_rfl
@[go_sem] theorem q_bldOf_83 : bldOf Tryd.prog 83 = (some ([(.d (.int .i64 (0 : Int))), (.d (.str (ByteArray.mk (Array.mk [])))), .nils, .nils, .nils, .nils, (.d (.int .i64 (0 : Int))), .nils, (.d (.int .i64 (0 : Int))), (.d (.int .i64 (0 : Int))), (.d (.str (ByteArray.mk (Array.mk [])))), (.d (.int .i64 (0 : Int))), .nils, (.d (.int .i64 (0 : Int))), (.d (.str (ByteArray.mk (Array.mk [])))), (.d (.int .i64 (0 : Int))), .nils, (.d (.str (ByteArray.mk (Array.mk [])))), .nils, .nils], [(0, 1), (1, 1), (2, 1), (3, 1), (4, 1), (5, 1), (6, 1), (7, 1), (8, 12)])) := by kernel_rfl
@[go_sem] theorem q_bldOf_98 : bldOf Tryd.prog 98 = (some ([.nils, (.d (.int .i64 (0 : Int))), (.d (.int .i64 (0 : Int)))], [(0, 1), (1, 1), (2, 1)])) := by kernel_rfl
@[go_sem] theorem q_bsOf_138 : bsOf Tryd.prog 138 = (some (5, 1)) := by kernel_rfl
@[go_sem] theorem q_bsOf_22 : bsOf Tryd.prog 22 = (some (47, 4)) := by kernel_rfl
@[go_sem] theorem q_bsOf_23 : bsOf Tryd.prog 23 = (some (4, 1)) := by kernel_rfl
@[go_sem] theorem q_bsOf_24 : bsOf Tryd.prog 24 = (some (40, 9)) := by kernel_rfl
@[go_sem] theorem q_bsOf_27 : bsOf Tryd.prog 27 = (some (3, 1)) := by kernel_rfl
@[go_sem] theorem q_bsOf_32 : bsOf Tryd.prog 32 = (some (27, 1)) := by kernel_rfl
@[go_sem] theorem q_bsOf_53 : bsOf Tryd.prog 53 = (some (26, 6)) := by kernel_rfl
@[go_sem] theorem q_bsOf_54 : bsOf Tryd.prog 54 = (some (83, 20)) := by kernel_rfl
@[go_sem] theorem q_bsOf_73 : bsOf Tryd.prog 73 = (some (9, 1)) := by kernel_rfl
@[go_sem] theorem q_bsOf_74 : bsOf Tryd.prog 74 = (some (108, 2)) := by kernel_rfl
@[go_sem] theorem q_bsOf_75 : bsOf Tryd.prog 75 = (some (111, 3)) := by kernel_rfl
@[go_sem] theorem q_bsOf_76 : bsOf Tryd.prog 76 = (some (78, 4)) := by kernel_rfl
@[go_sem] theorem q_bsOf_79 : bsOf Tryd.prog 79 = (some (81, 12)) := by kernel_rfl
@[go_sem] theorem q_bsOf_96 : bsOf Tryd.prog 96 = (some (127, 3)) := by kernel_rfl
@[go_sem] theorem q_callable_10 : callable Tryd.prog 10 = true := by kernel_rfl
@[go_sem] theorem q_callable_11 : callable Tryd.prog 11 = true := by kernel_rfl
@[go_sem] theorem q_callable_12 : callable Tryd.prog 12 = true := by kernel_rfl
@[go_sem] theorem q_callable_13 : callable Tryd.prog 13 = true := by kernel_rfl
@[go_sem] theorem q_callable_14 : callable Tryd.prog 14 = true := by kernel_rfl
@[go_sem] theorem q_callable_15 : callable Tryd.prog 15 = true := by kernel_rfl
@[go_sem] theorem q_callable_16 : callable Tryd.prog 16 = true := by kernel_rfl
@[go_sem] theorem q_callable_17 : callable Tryd.prog 17 = true := by kernel_rfl
@[go_sem] theorem q_callable_18 : callable Tryd.prog 18 = true := by kernel_rfl
@[go_sem] theorem q_callable_19 : callable Tryd.prog 19 = true := by kernel_rfl
@[go_sem] theorem q_callable_20 : callable Tryd.prog 20 = true := by kernel_rfl
@[go_sem] theorem q_callable_21 : callable Tryd.prog 21 = true := by kernel_rfl
@[go_sem] theorem q_callable_22 : callable Tryd.prog 22 = true := by kernel_rfl
@[go_sem] theorem q_callable_23 : callable Tryd.prog 23 = true := by kernel_rfl
@[go_sem] theorem q_callable_24 : callable Tryd.prog 24 = true := by kernel_rfl
@[go_sem] theorem q_callable_25 : callable Tryd.prog 25 = true := by kernel_rfl
@[go_sem] theorem q_callable_26 : callable Tryd.prog 26 = true := by kernel_rfl
@[go_sem] theorem q_callable_27 : callable Tryd.prog 27 = true := by kernel_rfl
@[go_sem] theorem q_callable_28 : callable Tryd.prog 28 = true := by kernel_rfl
@[go_sem] theorem q_callable_29 : callable Tryd.prog 29 = true := by kernel_rfl
@[go_sem] theorem q_callable_30 : callable Tryd.prog 30 = true := by kernel_rfl
@[go_sem] theorem q_callable_31 : callable Tryd.prog 31 = true := by kernel_rfl
@[go_sem] theorem q_callable_32 : callable Tryd.prog 32 = true := by kernel_rfl
@[go_sem] theorem q_callable_33 : callable Tryd.prog 33 = true := by kernel_rfl
@[go_sem] theorem q_callable_34 : callable Tryd.prog 34 = true := by kernel_rfl
@[go_sem] theorem q_callable_35 : callable Tryd.prog 35 = true := by kernel_rfl
@[go_sem] theorem q_callable_36 : callable Tryd.prog 36 = true := by kernel_rfl
@[go_sem] theorem q_callable_37 : callable Tryd.prog 37 = true := by kernel_rfl
@[go_sem] theorem q_callable_38 : callable Tryd.prog 38 = true := by kernel_rfl
@[go_sem] theorem q_callable_39 : callable Tryd.prog 39 = true := by kernel_rfl
@[go_sem] theorem q_callable_40 : callable Tryd.prog 40 = true := by kernel_rfl
@[go_sem] theorem q_callable_41 : callable Tryd.prog 41 = true := by kernel_rfl
@[go_sem] theorem q_callable_42 : callable Tryd.prog 42 = true := by kernel_rfl
@[go_sem] theorem q_callable_43 : callable Tryd.prog 43 = true := by kernel_rfl
@[go_sem] theorem q_callable_44 : callable Tryd.prog 44 = true := by kernel_rfl
@[go_sem] theorem q_callable_45 : callable Tryd.prog 45 = true := by kernel_rfl
@[go_sem] theorem q_callable_46 : callable Tryd.prog 46 = true := by kernel_rfl
@[go_sem] theorem q_callable_47 : callable Tryd.prog 47 = true := by kernel_rfl
@[go_sem] theorem q_callable_48 : callable Tryd.prog 48 = true := by kernel_rfl
@[go_sem] theorem q_callable_49 : callable Tryd.prog 49 = true := by kernel_rfl
@[go_sem] theorem q_callable_50 : callable Tryd.prog 50 = true := by kernel_rfl
@[go_sem] theorem q_callable_53 : callable Tryd.prog 53 = true := by kernel_rfl
@[go_sem] theorem q_callable_54 : callable Tryd.prog 54 = true := by kernel_rfl
@[go_sem] theorem q_callable_55 : callable Tryd.prog 55 = true := by kernel_rfl
@[go_sem] theorem q_callable_56 : callable Tryd.prog 56 = true := by kernel_rfl
@[go_sem] theorem q_callable_57 : callable Tryd.prog 57 = true := by kernel_rfl
@[go_sem] theorem q_callable_58 : callable Tryd.prog 58 = true := by kernel_rfl
@[go_sem] theorem q_callable_59 : callable Tryd.prog 59 = true := by kernel_rfl
@[go_sem] theorem q_callable_6 : callable Tryd.prog 6 = true := by kernel_rfl
@[go_sem] theorem q_callable_60 : callable Tryd.prog 60 = true := by kernel_rfl
@[go_sem] theorem q_callable_61 : callable Tryd.prog 61 = true := by kernel_rfl
@[go_sem] theorem q_callable_62 : callable Tryd.prog 62 = true := by kernel_rfl
@[go_sem] theorem q_callable_63 : callable Tryd.prog 63 = true := by kernel_rfl
@[go_sem] theorem q_callable_64 : callable Tryd.prog 64 = true := by kernel_rfl
@[go_sem] theorem q_callable_65 : callable Tryd.prog 65 = true := by kernel_rfl
@[go_sem] theorem q_callable_66 : callable Tryd.prog 66 = true := by kernel_rfl
@[go_sem] theorem q_callable_67 : callable Tryd.prog 67 = true := by kernel_rfl
@[go_sem] theorem q_callable_68 : callable Tryd.prog 68 = true := by kernel_rfl
@[go_sem] theorem q_callable_69 : callable Tryd.prog 69 = true := by kernel_rfl
@[go_sem] theorem q_callable_7 : callable Tryd.prog 7 = true := by kernel_rfl
@[go_sem] theorem q_callable_70 : callable Tryd.prog 70 = true := by kernel_rfl
@[go_sem] theorem q_callable_71 : callable Tryd.prog 71 = true := by kernel_rfl
@[go_sem] theorem q_callable_72 : callable Tryd.prog 72 = true := by kernel_rfl
@[go_sem] theorem q_callable_73 : callable Tryd.prog 73 = true := by kernel_rfl
@[go_sem] theorem q_callable_74 : callable Tryd.prog 74 = true := by kernel_rfl
@[go_sem] theorem q_callable_75 : callable Tryd.prog 75 = true := by kernel_rfl
@[go_sem] theorem q_callable_76 : callable Tryd.prog 76 = true := by kernel_rfl
@[go_sem] theorem q_callable_77 : callable Tryd.prog 77 = true := by kernel_rfl
@[go_sem] theorem q_callable_78 : callable Tryd.prog 78 = true := by kernel_rfl
@[go_sem] theorem q_callable_79 : callable Tryd.prog 79 = true := by kernel_rfl
@[go_sem] theorem q_callable_8 : callable Tryd.prog 8 = true := by kernel_rfl
@[go_sem] theorem q_callable_80 : callable Tryd.prog 80 = true := by kernel_rfl
@[go_sem] theorem q_callable_81 : callable Tryd.prog 81 = true := by kernel_rfl
@[go_sem] theorem q_callable_82 : callable Tryd.prog 82 = true := by kernel_rfl
@[go_sem] theorem q_callable_83 : callable Tryd.prog 83 = true := by kernel_rfl
@[go_sem] theorem q_callable_84 : callable Tryd.prog 84 = true := by kernel_rfl
@[go_sem] theorem q_callable_9 : callable Tryd.prog 9 = true := by kernel_rfl
@[go_sem] theorem q_convOf_138_9 : convOf Tryd.prog 138 9 = (some Conv.toStr) := by kernel_rfl
@[go_sem] theorem q_convOf_3_5 : convOf Tryd.prog 3 5 = (some (Conv.int .u8)) := by kernel_rfl
@[go_sem] theorem q_convOf_5_3 : convOf Tryd.prog 5 3 = (some (Conv.int .i64)) := by kernel_rfl
@[go_sem] theorem q_errTy_V_34 {eb : Nat → Addr} : errTy Tryd.prog (seatV eb) 34 = true := by kernel_rfl
@[go_sem] theorem q_fieldOff_108_0 : fieldOff Tryd.prog 108 0 = (some 0) := by kernel_rfl
@[go_sem] theorem q_fieldOff_108_1 : fieldOff Tryd.prog 108 1 = (some 1) := by kernel_rfl
@[go_sem] theorem q_fieldOff_111_0 : fieldOff Tryd.prog 111 0 = (some 0) := by kernel_rfl
@[go_sem] theorem q_fieldOff_111_1 : fieldOff Tryd.prog 111 1 = (some 1) := by kernel_rfl
@[go_sem] theorem q_fieldOff_111_2 : fieldOff Tryd.prog 111 2 = (some 2) := by kernel_rfl
@[go_sem] theorem q_fieldOff_127_0 : fieldOff Tryd.prog 127 0 = (some 0) := by kernel_rfl
@[go_sem] theorem q_fieldOff_127_1 : fieldOff Tryd.prog 127 1 = (some 1) := by kernel_rfl
@[go_sem] theorem q_fieldOff_127_2 : fieldOff Tryd.prog 127 2 = (some 2) := by kernel_rfl
@[go_sem] theorem q_fieldOff_26_0 : fieldOff Tryd.prog 26 0 = (some 0) := by kernel_rfl
@[go_sem] theorem q_fieldOff_26_1 : fieldOff Tryd.prog 26 1 = (some 1) := by kernel_rfl
@[go_sem] theorem q_fieldOff_26_2 : fieldOff Tryd.prog 26 2 = (some 2) := by kernel_rfl
@[go_sem] theorem q_fieldOff_26_4 : fieldOff Tryd.prog 26 4 = (some 4) := by kernel_rfl
@[go_sem] theorem q_fieldOff_26_5 : fieldOff Tryd.prog 26 5 = (some 5) := by kernel_rfl
@[go_sem] theorem q_fieldOff_29_0 : fieldOff Tryd.prog 29 0 = (some 0) := by kernel_rfl
@[go_sem] theorem q_fieldOff_29_1 : fieldOff Tryd.prog 29 1 = (some 6) := by kernel_rfl
@[go_sem] theorem q_fieldOff_29_2 : fieldOff Tryd.prog 29 2 = (some 7) := by kernel_rfl
@[go_sem] theorem q_fieldOff_29_3 : fieldOff Tryd.prog 29 3 = (some 8) := by kernel_rfl
@[go_sem] theorem q_fieldOff_40_0 : fieldOff Tryd.prog 40 0 = (some 0) := by kernel_rfl
@[go_sem] theorem q_fieldOff_40_1 : fieldOff Tryd.prog 40 1 = (some 1) := by kernel_rfl
@[go_sem] theorem q_fieldOff_40_2 : fieldOff Tryd.prog 40 2 = (some 2) := by kernel_rfl
@[go_sem] theorem q_fieldOff_40_5 : fieldOff Tryd.prog 40 5 = (some 5) := by kernel_rfl
@[go_sem] theorem q_fieldOff_40_6 : fieldOff Tryd.prog 40 6 = (some 6) := by kernel_rfl
@[go_sem] theorem q_fieldOff_40_7 : fieldOff Tryd.prog 40 7 = (some 7) := by kernel_rfl
@[go_sem] theorem q_fieldOff_40_8 : fieldOff Tryd.prog 40 8 = (some 8) := by kernel_rfl
@[go_sem] theorem q_fieldOff_47_0 : fieldOff Tryd.prog 47 0 = (some 0) := by kernel_rfl
@[go_sem] theorem q_fieldOff_47_1 : fieldOff Tryd.prog 47 1 = (some 1) := by kernel_rfl
@[go_sem] theorem q_fieldOff_47_2 : fieldOff Tryd.prog 47 2 = (some 2) := by kernel_rfl
@[go_sem] theorem q_fieldOff_47_3 : fieldOff Tryd.prog 47 3 = (some 3) := by kernel_rfl
@[go_sem] theorem q_fieldOff_56_0 : fieldOff Tryd.prog 56 0 = (some 0) := by kernel_rfl
@[go_sem] theorem q_fieldOff_56_1 : fieldOff Tryd.prog 56 1 = (some 1) := by kernel_rfl
@[go_sem] theorem q_fieldOff_78_0 : fieldOff Tryd.prog 78 0 = (some 0) := by kernel_rfl
@[go_sem] theorem q_fieldOff_78_1 : fieldOff Tryd.prog 78 1 = (some 1) := by kernel_rfl
@[go_sem] theorem q_fieldOff_78_2 : fieldOff Tryd.prog 78 2 = (some 2) := by kernel_rfl
@[go_sem] theorem q_fieldOff_78_3 : fieldOff Tryd.prog 78 3 = (some 3) := by kernel_rfl
@[go_sem] theorem q_fieldOff_81_0 : fieldOff Tryd.prog 81 0 = (some 0) := by kernel_rfl
@[go_sem] theorem q_fieldOff_81_1 : fieldOff Tryd.prog 81 1 = (some 1) := by kernel_rfl
@[go_sem] theorem q_fieldOff_81_2 : fieldOff Tryd.prog 81 2 = (some 5) := by kernel_rfl
@[go_sem] theorem q_fieldOff_81_3 : fieldOff Tryd.prog 81 3 = (some 9) := by kernel_rfl
@[go_sem] theorem q_fieldOff_81_4 : fieldOff Tryd.prog 81 4 = (some 10) := by kernel_rfl
@[go_sem] theorem q_fieldOff_81_5 : fieldOff Tryd.prog 81 5 = (some 11) := by kernel_rfl
@[go_sem] theorem q_fieldOff_83_0 : fieldOff Tryd.prog 83 0 = (some 0) := by kernel_rfl
@[go_sem] theorem q_fieldOff_83_1 : fieldOff Tryd.prog 83 1 = (some 1) := by kernel_rfl
@[go_sem] theorem q_fieldOff_83_2 : fieldOff Tryd.prog 83 2 = (some 2) := by kernel_rfl
@[go_sem] theorem q_fieldOff_83_3 : fieldOff Tryd.prog 83 3 = (some 3) := by kernel_rfl
@[go_sem] theorem q_fieldOff_83_4 : fieldOff Tryd.prog 83 4 = (some 4) := by kernel_rfl
@[go_sem] theorem q_fieldOff_83_5 : fieldOff Tryd.prog 83 5 = (some 5) := by kernel_rfl
@[go_sem] theorem q_fieldOff_83_6 : fieldOff Tryd.prog 83 6 = (some 6) := by kernel_rfl
@[go_sem] theorem q_fieldOff_83_7 : fieldOff Tryd.prog 83 7 = (some 7) := by kernel_rfl
@[go_sem] theorem q_fieldOff_83_8 : fieldOff Tryd.prog 83 8 = (some 8) := by kernel_rfl
@[go_sem] theorem q_fieldOff_98_0 : fieldOff Tryd.prog 98 0 = (some 0) := by kernel_rfl
@[go_sem] theorem q_fieldOff_98_1 : fieldOff Tryd.prog 98 1 = (some 1) := by kernel_rfl
@[go_sem] theorem q_fieldOff_98_2 : fieldOff Tryd.prog 98 2 = (some 2) := by kernel_rfl
@[go_sem] theorem q_idxOf_138 : idxOf Tryd.prog 138 = (some 1) := by kernel_rfl
@[go_sem] theorem q_idxOf_22 : idxOf Tryd.prog 22 = (some 4) := by kernel_rfl
@[go_sem] theorem q_idxOf_23 : idxOf Tryd.prog 23 = (some 1) := by kernel_rfl
@[go_sem] theorem q_idxOf_24 : idxOf Tryd.prog 24 = (some 9) := by kernel_rfl
@[go_sem] theorem q_idxOf_27 : idxOf Tryd.prog 27 = (some 1) := by kernel_rfl
@[go_sem] theorem q_idxOf_32 : idxOf Tryd.prog 32 = (some 1) := by kernel_rfl
@[go_sem] theorem q_idxOf_53 : idxOf Tryd.prog 53 = (some 6) := by kernel_rfl
@[go_sem] theorem q_idxOf_54 : idxOf Tryd.prog 54 = (some 20) := by kernel_rfl
@[go_sem] theorem q_idxOf_59 : idxOf Tryd.prog 59 = (some 1) := by kernel_rfl
@[go_sem] theorem q_idxOf_62 : idxOf Tryd.prog 62 = (some 1) := by kernel_rfl
@[go_sem] theorem q_idxOf_73 : idxOf Tryd.prog 73 = (some 1) := by kernel_rfl
@[go_sem] theorem q_idxOf_74 : idxOf Tryd.prog 74 = (some 2) := by kernel_rfl
@[go_sem] theorem q_idxOf_75 : idxOf Tryd.prog 75 = (some 3) := by kernel_rfl
@[go_sem] theorem q_idxOf_76 : idxOf Tryd.prog 76 = (some 4) := by kernel_rfl
@[go_sem] theorem q_idxOf_79 : idxOf Tryd.prog 79 = (some 12) := by kernel_rfl
@[go_sem] theorem q_idxOf_96 : idxOf Tryd.prog 96 = (some 3) := by kernel_rfl
@[go_sem] theorem q_isBoolT_4 : isBoolT Tryd.prog 4 = true := by kernel_rfl
@[go_sem] theorem q_isIface_34 : isIface Tryd.prog 34 = true := by kernel_rfl
@[go_sem] theorem q_isSliceT_138 : isSliceT Tryd.prog 138 = true := by kernel_rfl
@[go_sem] theorem q_isSliceT_22 : isSliceT Tryd.prog 22 = true := by kernel_rfl
@[go_sem] theorem q_isSliceT_23 : isSliceT Tryd.prog 23 = true := by kernel_rfl
@[go_sem] theorem q_isSliceT_24 : isSliceT Tryd.prog 24 = true := by kernel_rfl
@[go_sem] theorem q_isSliceT_27 : isSliceT Tryd.prog 27 = true := by kernel_rfl
@[go_sem] theorem q_isSliceT_32 : isSliceT Tryd.prog 32 = true := by kernel_rfl
@[go_sem] theorem q_isSliceT_53 : isSliceT Tryd.prog 53 = true := by kernel_rfl
@[go_sem] theorem q_isSliceT_54 : isSliceT Tryd.prog 54 = true := by kernel_rfl
@[go_sem] theorem q_isSliceT_59 : isSliceT Tryd.prog 59 = true := by kernel_rfl
@[go_sem] theorem q_isSliceT_62 : isSliceT Tryd.prog 62 = true := by kernel_rfl
@[go_sem] theorem q_isSliceT_73 : isSliceT Tryd.prog 73 = true := by kernel_rfl
@[go_sem] theorem q_isSliceT_74 : isSliceT Tryd.prog 74 = true := by kernel_rfl
@[go_sem] theorem q_isSliceT_75 : isSliceT Tryd.prog 75 = true := by kernel_rfl
@[go_sem] theorem q_isSliceT_76 : isSliceT Tryd.prog 76 = true := by kernel_rfl
@[go_sem] theorem q_isSliceT_79 : isSliceT Tryd.prog 79 = true := by kernel_rfl
@[go_sem] theorem q_isSliceT_96 : isSliceT Tryd.prog 96 = true := by kernel_rfl
@[go_sem] theorem q_isStrT_9 : isStrT Tryd.prog 9 = true := by kernel_rfl
@[go_sem] theorem q_mkOf_23 : mkOf Tryd.prog 23 = (some (4, (1, (1, (.bool false))))) := by kernel_rfl
@[go_sem] theorem q_mkOf_24 : mkOf Tryd.prog 24 = (some (40, (9, (120, (.agg [(.int .i64 (0 : Int)), (.int .i64 (0 : Int)), (.int .i64 (0 : Int)), (.int .i64 (0 : Int)), (.int .i64 (0 : Int)), (.int .i64 (0 : Int)), (.slice []), (.slice []), (.slice [])]))))) := by kernel_rfl
@[go_sem] theorem q_mkOf_32 : mkOf Tryd.prog 32 = (some (27, (1, (24, (.slice []))))) := by kernel_rfl
@[go_sem] theorem q_mkOf_59 : mkOf Tryd.prog 59 = (some (62, (1, (24, (.slice []))))) := by kernel_rfl
@[go_sem] theorem q_mkOf_62 : mkOf Tryd.prog 62 = (some (89, (1, (8, (.int .u64 (0 : Int)))))) := by kernel_rfl
@[go_sem] theorem q_sliceOf_27 : sliceOf Tryd.prog 27 = (some (some 1)) := by kernel_rfl
@[go_sem] theorem q_sliceOf_9 : sliceOf Tryd.prog 9 = (some none) := by kernel_rfl
@[go_sem] theorem q_tshape_108 : tshape Tryd.prog 108 = (some (true, 2)) := by kernel_rfl
@[go_sem] theorem q_tshape_111 : tshape Tryd.prog 111 = (some (true, 3)) := by kernel_rfl
@[go_sem] theorem q_tshape_127 : tshape Tryd.prog 127 = (some (true, 3)) := by kernel_rfl
@[go_sem] theorem q_tshape_22 : tshape Tryd.prog 22 = (some (false, 1)) := by kernel_rfl
@[go_sem] theorem q_tshape_23 : tshape Tryd.prog 23 = (some (false, 1)) := by kernel_rfl
@[go_sem] theorem q_tshape_24 : tshape Tryd.prog 24 = (some (false, 1)) := by kernel_rfl
@[go_sem] theorem q_tshape_26 : tshape Tryd.prog 26 = (some (true, 6)) := by kernel_rfl
@[go_sem] theorem q_tshape_27 : tshape Tryd.prog 27 = (some (false, 1)) := by kernel_rfl
@[go_sem] theorem q_tshape_3 : tshape Tryd.prog 3 = (some (false, 1)) := by kernel_rfl
@[go_sem] theorem q_tshape_34 : tshape Tryd.prog 34 = (some (false, 1)) := by kernel_rfl
@[go_sem] theorem q_tshape_4 : tshape Tryd.prog 4 = (some (false, 1)) := by kernel_rfl
@[go_sem] theorem q_tshape_40 : tshape Tryd.prog 40 = (some (true, 9)) := by kernel_rfl
@[go_sem] theorem q_tshape_47 : tshape Tryd.prog 47 = (some (true, 4)) := by kernel_rfl
@[go_sem] theorem q_tshape_5 : tshape Tryd.prog 5 = (some (false, 1)) := by kernel_rfl
@[go_sem] theorem q_tshape_53 : tshape Tryd.prog 53 = (some (false, 1)) := by kernel_rfl
@[go_sem] theorem q_tshape_54 : tshape Tryd.prog 54 = (some (false, 1)) := by kernel_rfl
@[go_sem] theorem q_tshape_62 : tshape Tryd.prog 62 = (some (false, 1)) := by kernel_rfl
@[go_sem] theorem q_tshape_73 : tshape Tryd.prog 73 = (some (false, 1)) := by kernel_rfl
@[go_sem] theorem q_tshape_74 : tshape Tryd.prog 74 = (some (false, 1)) := by kernel_rfl
@[go_sem] theorem q_tshape_75 : tshape Tryd.prog 75 = (some (false, 1)) := by kernel_rfl
@[go_sem] theorem q_tshape_76 : tshape Tryd.prog 76 = (some (false, 1)) := by kernel_rfl
@[go_sem] theorem q_tshape_78 : tshape Tryd.prog 78 = (some (true, 4)) := by kernel_rfl
@[go_sem] theorem q_tshape_79 : tshape Tryd.prog 79 = (some (false, 1)) := by kernel_rfl
@[go_sem] theorem q_tshape_81 : tshape Tryd.prog 81 = (some (true, 12)) := by kernel_rfl
@[go_sem] theorem q_tshape_83 : tshape Tryd.prog 83 = (some (true, 20)) := by kernel_rfl
@[go_sem] theorem q_tshape_89 : tshape Tryd.prog 89 = (some (false, 1)) := by kernel_rfl
@[go_sem] theorem q_tshape_9 : tshape Tryd.prog 9 = (some (false, 1)) := by kernel_rfl
@[go_sem] theorem q_tshape_96 : tshape Tryd.prog 96 = (some (false, 1)) := by kernel_rfl
@[go_sem] theorem q_zeroOf_108 : zeroOf Tryd.prog 108 = (some [(.d (.str (ByteArray.mk (Array.mk [])))), .nils]) := by kernel_rfl
@[go_sem] theorem q_zeroOf_111 : zeroOf Tryd.prog 111 = (some [(.d (.bool false)), (.d (.str (ByteArray.mk (Array.mk [])))), .nils]) := by kernel_rfl
@[go_sem] theorem q_zeroOf_127 : zeroOf Tryd.prog 127 = (some [(.d (.int .i64 (0 : Int))), (.d (.str (ByteArray.mk (Array.mk [])))), (.d (.int .i64 (0 : Int)))]) := by kernel_rfl
@[go_sem] theorem q_zeroOf_26 : zeroOf Tryd.prog 26 = (some [(.d (.str (ByteArray.mk (Array.mk [])))), .nils, .nils, (.d (.int .i64 (0 : Int))), .nils, .nils]) := by kernel_rfl
@[go_sem] theorem q_zeroOf_40 : zeroOf Tryd.prog 40 = (some [(.d (.int .i64 (0 : Int))), (.d (.int .i64 (0 : Int))), (.d (.int .i64 (0 : Int))), (.d (.int .i64 (0 : Int))), (.d (.int .i64 (0 : Int))), (.d (.int .i64 (0 : Int))), .nils, .nils, .nils]) := by kernel_rfl
@[go_sem] theorem q_zeroOf_47 : zeroOf Tryd.prog 47 = (some [(.d (.int .i64 (0 : Int))), (.d (.str (ByteArray.mk (Array.mk [])))), (.d (.int .i64 (0 : Int))), .nils]) := by kernel_rfl
@[go_sem] theorem q_zeroOf_78 : zeroOf Tryd.prog 78 = (some [(.d (.int .i64 (0 : Int))), (.d (.str (ByteArray.mk (Array.mk [])))), (.d (.int .i64 (0 : Int))), .nils]) := by kernel_rfl
@[go_sem] theorem q_zeroOf_81 : zeroOf Tryd.prog 81 = (some [(.d (.int .i64 (0 : Int))), (.d (.int .i64 (0 : Int))), (.d (.str (ByteArray.mk (Array.mk [])))), (.d (.int .i64 (0 : Int))), .nils, (.d (.int .i64 (0 : Int))), (.d (.str (ByteArray.mk (Array.mk [])))), (.d (.int .i64 (0 : Int))), .nils, (.d (.str (ByteArray.mk (Array.mk [])))), .nils, .nils]) := by kernel_rfl
@[go_sem] theorem q_zeroOf_83 : zeroOf Tryd.prog 83 = (some [(.d (.int .i64 (0 : Int))), (.d (.str (ByteArray.mk (Array.mk [])))), .nils, .nils, .nils, .nils, (.d (.int .i64 (0 : Int))), .nils, (.d (.int .i64 (0 : Int))), (.d (.int .i64 (0 : Int))), (.d (.str (ByteArray.mk (Array.mk [])))), (.d (.int .i64 (0 : Int))), .nils, (.d (.int .i64 (0 : Int))), (.d (.str (ByteArray.mk (Array.mk [])))), (.d (.int .i64 (0 : Int))), .nils, (.d (.str (ByteArray.mk (Array.mk [])))), .nils, .nils]) := by kernel_rfl

def pl3 : List (Nat × Plan) := [(10, (.fl 0 (.fl 1 (.fl 2 (.fl 3 (.fl 4 (.fl 5 (.fl 6 (.fl 7 (.fl 8 (.fl 9 (.fl 10 (.fl 11 (.fl 12 (.fl 13 (.fl 14 (.fl 15 (.fl 16 (.fl 17 (.fl 18 (.fl 19 (.fl 20 (.fl 21 (.fl 22 (.fl 23 (.eff 24 [] (.fl 25 .done))))))))))))))))))))))))))), (16, (.fl 0 (.fl 1 (.fl 2 (.fl 4 (.fl 5 (.eff 3 [5] (.eff 6 [] .done)))))))), (21, (.fl 0 (.fl 1 (.fl 2 (.fl 3 (.fl 4 (.fl 5 (.fl 6 (.fl 7 (.fl 8 (.fl 9 (.fl 10 (.fl 11 (.fl 12 (.fl 13 .done))))))))))))))), (22, (.fl 0 (.fl 1 (.fl 2 (.fl 3 (.fl 4 (.fl 5 (.eff 6 [] .done))))))))]
def kp3 : List (Nat × List Nat) := [(0, [0]), (1, [1]), (2, []), (3, [1]), (4, []), (5, [1]), (6, [1, 3, 4]), (7, []), (8, [1, 3]), (9, [1, 3, 5]), (10, [1, 3, 5, 6]), (11, []), (12, [1, 6]), (13, [1, 6, 7]), (14, [1, 6, 7]), (15, [1, 6, 7]), (16, [1, 6, 7, 8]), (17, []), (18, [1, 6, 7, 8]), (19, [1, 7, 9, 10]), (20, []), (21, [1, 7, 9, 10]), (22, [1, 7, 9, 10, 11]), (23, []), (24, [1, 7, 9, 11]), (25, [])]
noncomputable def s3 : SCode := toS (planAt pl3) (keepAt kp3) (Tryd.f3.body.getD .skip)
theorem fn3 : FnIs Tryd.prog 3 119 [.tmp 2] s3 := FnIs.mk' (planAt pl3) (keepAt kp3) (by kernel_rfl)
def pl4 : List (Nat × Plan) := [(8, (.fl 0 (.fl 1 (.fl 2 (.fl 3 (.fl 4 (.fl 5 .done))))))), (25, (.fl 0 (.fl 1 (.fl 2 (.fl 3 (.fl 4 (.fl 5 (.fl 6 (.fl 7 (.fl 8 (.fl 9 (.eff 10 [1, 4, 6, 7, 8, 9] (.eff 11 [] .done))))))))))))), (26, (.fl 0 (.fl 1 (.fl 2 (.fl 5 (.fl 6 (.fl 7 (.both (.eff 3 [7] (.both (.eff 4 [7] (.eff 8 [2] (.eff 9 [2] (.eff 10 [] (.eff 11 [] (.eff 12 [] .done)))))) (.eff 8 [2] (.both (.eff 4 [7] (.eff 9 [2] (.eff 10 [] (.eff 11 [] (.eff 12 [] .done))))) (.eff 9 [2] (.eff 4 [7] (.eff 10 [] (.eff 11 [] (.eff 12 [] .done))))))))) (.eff 8 [2] (.both (.eff 3 [7] (.both (.eff 4 [7] (.eff 9 [2] (.eff 10 [] (.eff 11 [] (.eff 12 [] .done))))) (.eff 9 [2] (.eff 4 [7] (.eff 10 [] (.eff 11 [] (.eff 12 [] .done))))))) (.eff 9 [2] (.eff 3 [7] (.eff 4 [7] (.eff 10 [] (.eff 11 [] (.eff 12 [] .done)))))))))))))))), (37, (.fl 0 (.fl 1 (.fl 2 (.fl 3 (.fl 4 (.fl 5 (.fl 6 (.fl 7 .done)))))))))]
def kp4 : List (Nat × List Nat) := [(0, [0]), (1, [1]), (2, []), (3, [1]), (4, []), (5, [1]), (6, [1, 3, 4]), (7, [1, 3, 4, 5, 6]), (8, [4, 6]), (9, [1, 3, 5]), (10, [1, 3, 5, 51, 52, 53]), (11, [1, 3, 5, 51, 52, 53]), (12, [1, 3, 5, 7, 8, 51, 52, 53]), (13, [1, 3, 5, 7, 51, 52, 53]), (14, []), (15, [1, 3, 5, 7, 51, 52, 53]), (16, [1, 3, 5, 7, 9, 51, 52, 53]), (17, [1, 3, 5, 7, 9, 10, 51, 52, 53]), (18, [1, 3, 5, 7, 9, 10, 51, 52, 53, 82, 83, 84]), (19, [1, 3, 5, 7, 9, 10, 51, 52, 53, 82, 83, 84]), (20, [1, 3, 5, 7, 9, 10, 12, 51, 52, 53, 82, 83, 84]), (21, [1, 3, 5, 7, 9, 10, 51, 52, 53, 82, 83, 84]), (22, [1, 3, 5, 7, 9, 10, 51, 52, 53]), (23, [1, 3, 5, 7, 9, 10, 13, 14, 51, 52, 53]), (24, [1, 3, 5, 7, 9, 10, 13, 14, 15, 51, 52, 53]), (25, [1, 3, 5, 7, 10, 13, 14, 15, 51, 52, 53]), (26, [1, 3, 5, 7, 10, 13, 14, 16, 51, 52, 53]), (27, [1, 3, 5, 7, 10, 13, 14, 51, 52, 53]), (28, [1, 3, 5, 7, 10, 14, 51, 52, 53, 145, 146, 147]), (29, [1, 3, 5, 7, 10, 14, 51, 52, 53, 145, 146, 147]), (30, [1, 3, 5, 7, 10, 14, 17, 18, 51, 52, 53, 145, 146, 147]), (31, [1, 3, 5, 7, 10, 14, 17, 51, 52, 53, 145, 146, 147, 155, 156, 157]), (32, [1, 3, 5, 7, 10, 14, 17, 51, 52, 53, 145, 146, 147, 155, 156, 157]), (33, [1, 3, 5, 7, 10, 14, 17, 20, 51, 52, 53, 145, 146, 147, 155, 156, 157]), (34, [1, 3, 5, 7, 10, 14, 17, 20, 51, 52, 53, 145, 146, 147, 155, 156, 157]), (35, [1, 3, 5, 7, 10, 14, 17, 51, 52, 53, 145, 146, 147, 155, 156, 157]), (36, [1, 3, 5, 7, 10, 14, 51, 52, 53, 145, 146, 147]), (37, [1, 3, 5, 7, 10, 51, 52, 53]), (38, []), (39, [1, 3, 5, 7, 10, 51, 52, 53]), (40, [1, 3, 5, 7, 10, 21, 51, 52, 53]), (41, [1, 3, 5, 10, 21, 51, 52, 53, 183, 184, 185]), (42, [1, 3, 5, 10, 21, 51, 52, 53, 183, 184, 185]), (43, [1, 3, 5, 10, 21, 23, 51, 52, 53, 183, 184, 185]), (44, []), (45, [1, 3, 5, 10, 23, 51, 52, 53, 183, 184, 185]), (46, [1, 3, 5, 10, 21, 51, 52, 53, 183, 184, 185]), (47, [1, 3, 5, 51, 52, 53]), (48, [])]
noncomputable def s4 : SCode := toS (planAt pl4) (keepAt kp4) (Tryd.f4.body.getD .skip)
theorem fn4 : FnIs Tryd.prog 4 201 [.tmp 2] s4 := FnIs.mk' (planAt pl4) (keepAt kp4) (by kernel_rfl)
def pl5 : List (Nat × Plan) := []
def kp5 : List (Nat × List Nat) := [(0, [0]), (1, [1]), (2, []), (3, [1]), (4, []), (5, [1]), (6, [1, 3, 4]), (7, [1, 3, 4, 5]), (8, [1, 3, 4, 5]), (9, [1, 3, 4, 6, 7]), (10, [4]), (11, [1, 3, 6, 7]), (12, []), (13, [1, 3]), (14, [1, 3, 8, 9]), (15, []), (16, [3, 8]), (17, [3, 74, 75, 76]), (18, [3, 74, 75, 76]), (19, [3, 10, 11, 74, 75, 76]), (20, []), (21, [3, 10, 11, 74, 75, 76]), (22, [3, 10, 11, 74, 75, 76, 101, 102, 103]), (23, [3, 10, 11, 74, 75, 76, 101, 102, 103]), (24, [3, 10, 11, 13, 74, 75, 76, 101, 102, 103]), (25, []), (26, [3, 10, 11, 74, 75, 76, 101, 102, 103]), (27, [3, 74, 75, 76]), (28, [])]
noncomputable def s5 : SCode := toS (planAt pl5) (keepAt kp5) (Tryd.f5.body.getD .skip)
theorem fn5 : FnIs Tryd.prog 5 143 [.tmp 2] s5 := FnIs.mk' (planAt pl5) (keepAt kp5) (by kernel_rfl)
def pl6 : List (Nat × Plan) := []
def kp6 : List (Nat × List Nat) := [(0, []), (1, []), (2, [1, 2])]
noncomputable def s6 : SCode := toS (planAt pl6) (keepAt kp6) (Tryd.f6.body.getD .skip)
theorem fn6 : FnIs Tryd.prog 6 17 [.tmp 0] s6 := FnIs.mk' (planAt pl6) (keepAt kp6) (by kernel_rfl)
def pl7 : List (Nat × Plan) := []
def kp7 : List (Nat × List Nat) := [(0, [0]), (1, [1])]
noncomputable def s7 : SCode := toS (planAt pl7) (keepAt kp7) (Tryd.f7.body.getD .skip)
theorem fn7 : FnIs Tryd.prog 7 19 [.tmp 2] s7 := FnIs.mk' (planAt pl7) (keepAt kp7) (by kernel_rfl)
def pl8 : List (Nat × Plan) := [(3, (.fl 0 (.fl 1 (.fl 2 .done))))]
def kp8 : List (Nat × List Nat) := [(0, [0]), (1, [1]), (2, [1, 4, 5]), (3, []), (4, [1, 4]), (5, [1, 4, 6]), (6, [6, 23, 24, 25]), (7, [6, 23, 24, 25]), (8, [6, 7, 8, 23, 24, 25]), (9, [6, 23, 24, 25]), (10, [6])]
noncomputable def s8 : SCode := toS (planAt pl8) (keepAt kp8) (Tryd.f8.body.getD .skip)
theorem fn8 : FnIs Tryd.prog 8 37 [.tmp 2, .tmp 3] s8 := FnIs.mk' (planAt pl8) (keepAt kp8) (by kernel_rfl)
def pl9 : List (Nat × Plan) := []
def kp9 : List (Nat × List Nat) := [(0, [0]), (1, [1]), (2, [1, 3]), (3, [1, 3]), (4, [1, 3]), (5, [1, 3, 4]), (6, [1, 3]), (7, [1, 3, 4]), (8, [1, 3, 4, 22, 23, 24]), (9, [1, 3, 4, 22, 23, 24]), (10, [1, 3, 4, 5, 6, 22, 23, 24]), (11, [1, 3, 4, 5, 7, 22, 23, 24]), (12, [1, 3, 4, 5, 22, 23, 24, 35, 36, 37]), (13, [1, 3, 4, 5, 22, 23, 24, 35, 36, 37]), (14, [1, 3, 4, 5, 10, 22, 23, 24, 35, 36, 37]), (15, [1, 3, 5, 10, 22, 23, 24, 35, 36, 37]), (16, [1, 3, 4, 5, 22, 23, 24, 35, 36, 37]), (17, [1, 3, 4, 22, 23, 24]), (18, [3])]
noncomputable def s9 : SCode := toS (planAt pl9) (keepAt kp9) (Tryd.f9.body.getD .skip)
theorem fn9 : FnIs Tryd.prog 9 68 [.tmp 2] s9 := FnIs.mk' (planAt pl9) (keepAt kp9) (by kernel_rfl)
def pl10 : List (Nat × Plan) := []
def kp10 : List (Nat × List Nat) := [(0, [0, 1]), (1, [0, 1]), (2, [1, 7, 8, 9]), (3, [1, 7, 8, 9]), (4, [1, 6, 7, 8, 9]), (5, []), (6, [1, 7, 8, 9]), (7, [])]
noncomputable def s10 : SCode := toS (planAt pl10) (keepAt kp10) (Tryd.f10.body.getD .skip)
theorem fn10 : FnIs Tryd.prog 10 17 [.tmp 4] s10 := FnIs.mk' (planAt pl10) (keepAt kp10) (by kernel_rfl)
def pl11 : List (Nat × Plan) := [(17, (.fl 0 (.fl 1 (.fl 2 (.fl 5 (.fl 6 (.eff 3 [6] (.eff 4 [6] (.eff 7 [] (.eff 8 [] .done))))))))))]
def kp11 : List (Nat × List Nat) := [(0, [0, 1]), (1, [2, 3]), (2, [2, 3, 5]), (3, [2, 3, 5, 10]), (4, [3, 5]), (5, [2, 3, 5, 10]), (6, [2, 3, 5, 10]), (7, [3, 5]), (8, [2, 3, 5, 10]), (9, [2, 3, 5, 10]), (10, [2, 3, 5, 10]), (11, [2, 3, 5, 10]), (12, [3, 5]), (13, [2, 3, 5, 10]), (14, [2, 3, 5, 10]), (15, [3, 5]), (16, [2, 3, 5, 10]), (17, [3, 5]), (18, [2, 5, 10]), (19, [2, 5]), (20, [5, 58, 59, 60]), (21, [5, 58, 59, 60]), (22, [5, 6, 7, 58, 59, 60]), (23, [5, 6, 58, 59, 60]), (24, [5, 58, 59, 60]), (25, [5])]
noncomputable def s11 : SCode := toS (planAt pl11) (keepAt kp11) (Tryd.f11.body.getD .skip)
theorem fn11 : FnIs Tryd.prog 11 73 [.tmp 4] s11 := FnIs.mk' (planAt pl11) (keepAt kp11) (by kernel_rfl)
def pl12 : List (Nat × Plan) := [(11, (.fl 0 (.fl 1 (.fl 2 (.fl 3 (.fl 5 (.fl 6 (.both (.eff 4 [6] (.fl 9 (.eff 7 [3] (.eff 8 [3] (.fl 10 .done))))) (.eff 7 [3] (.both (.eff 4 [6] (.fl 9 (.eff 8 [3] (.fl 10 .done)))) (.eff 8 [3] (.eff 4 [6] (.fl 9 (.fl 10 .done)))))))))))))), (13, (.fl 0 (.fl 1 (.fl 2 (.fl 3 (.fl 5 (.both (.eff 4 [5] (.eff 6 [3] (.fl 8 (.eff 7 [3] (.fl 9 .done))))) (.eff 6 [3] (.both (.eff 4 [5] (.fl 8 (.eff 7 [3] (.fl 9 .done)))) (.eff 7 [3] (.eff 4 [5] (.fl 8 (.fl 9 .done)))))))))))))]
def kp12 : List (Nat × List Nat) := [(0, [0, 1]), (1, [0, 3]), (2, [0, 3, 7]), (3, [3]), (4, [0, 3, 7]), (5, [0, 3, 7]), (6, [0, 3, 7]), (7, []), (8, [0, 3, 7]), (9, [0, 3]), (10, [0, 3, 7]), (11, [0, 3]), (12, [0, 3]), (13, [0, 3]), (14, [0, 3])]
noncomputable def s12 : SCode := toS (planAt pl12) (keepAt kp12) (Tryd.f12.body.getD .skip)
theorem fn12 : FnIs Tryd.prog 12 58 [.tmp 4, .tmp 5] s12 := FnIs.mk' (planAt pl12) (keepAt kp12) (by kernel_rfl)
def pl13 : List (Nat × Plan) := [(3, (.fl 0 (.fl 1 (.fl 2 .done))))]
def kp13 : List (Nat × List Nat) := [(0, [0]), (1, [1]), (2, [4, 5]), (3, []), (4, [4]), (5, [4, 6]), (6, [4, 6, 20, 21]), (7, [4, 6, 20, 21]), (8, [4, 6, 7, 20, 21]), (9, [4, 6, 20, 21]), (10, [6])]
noncomputable def s13 : SCode := toS (planAt pl13) (keepAt kp13) (Tryd.f13.body.getD .skip)
theorem fn13 : FnIs Tryd.prog 13 34 [.tmp 2, .tmp 3] s13 := FnIs.mk' (planAt pl13) (keepAt kp13) (by kernel_rfl)
def pl14 : List (Nat × Plan) := [(6, (.fl 0 (.fl 1 (.fl 2 (.fl 3 (.fl 4 (.fl 5 (.fl 6 (.fl 7 (.eff 8 [] (.fl 9 .done)))))))))))]
def kp14 : List (Nat × List Nat) := [(0, [0, 1]), (1, [0, 1]), (2, []), (3, [0, 1]), (4, [0, 1, 12, 13]), (5, [0, 1, 12, 13]), (6, [0, 1, 5, 12, 13]), (7, []), (8, [0, 1, 12, 13]), (9, [])]
noncomputable def s14 : SCode := toS (planAt pl14) (keepAt kp14) (Tryd.f14.body.getD .skip)
theorem fn14 : FnIs Tryd.prog 14 27 [.tmp 4] s14 := FnIs.mk' (planAt pl14) (keepAt kp14) (by kernel_rfl)
def pl15 : List (Nat × Plan) := [(3, (.fl 1 (.eff 0 [1] (.eff 2 [1] (.fl 3 .done))))), (12, (.fl 0 (.fl 1 (.fl 2 (.fl 3 (.fl 4 (.fl 5 (.fl 6 (.fl 7 (.eff 8 [4, 5] (.eff 9 [] .done))))))))))), (14, (.fl 0 (.fl 1 (.fl 2 (.fl 3 (.fl 4 (.fl 5 (.fl 6 (.fl 7 (.eff 8 [] .done)))))))))), (19, (.fl 0 (.fl 1 (.fl 2 (.fl 3 (.fl 4 (.fl 5 (.fl 6 (.fl 7 (.fl 8 (.fl 9 (.eff 10 [1, 4, 6, 7, 8, 9] (.eff 11 [] .done))))))))))))), (20, (.fl 0 (.fl 1 (.fl 2 (.fl 3 (.fl 4 (.fl 5 (.fl 6 (.fl 7 (.eff 8 [3, 4, 5] (.eff 9 [] .done)))))))))))]
def kp15 : List (Nat × List Nat) := [(0, [0]), (1, [1, 2]), (2, [1, 2, 4, 5]), (3, [2]), (4, [1, 2, 4]), (5, [1, 2, 4, 6]), (6, [1, 2, 4, 6, 7]), (7, [1, 2, 4, 6, 7, 30, 31, 32]), (8, [1, 2, 4, 6, 7, 30, 31, 32]), (9, [1, 2, 4, 6, 7, 8, 9, 30, 31, 32]), (10, [1, 2, 4, 6, 7, 8, 9, 10, 30, 31, 32]), (11, [1, 2, 4, 6, 7, 8, 9, 10, 30, 31, 32, 44]), (12, [1, 2, 4, 6, 7, 8, 9, 10, 30, 31, 32]), (13, [1, 2, 4, 6, 7, 8, 9, 10, 30, 31, 32, 44]), (14, [1, 2, 4, 6, 7, 8, 9, 10, 30, 31, 32]), (15, [1, 2, 4, 6, 7, 8, 9, 10, 30, 31, 32]), (16, [1, 2, 4, 6, 7, 8, 9, 10, 30, 31, 32]), (17, [1, 2, 4, 6, 7, 8, 9, 10, 30, 31, 32]), (18, [1, 2, 4, 6, 7, 8, 9, 10, 11, 30, 31, 32]), (19, [1, 2, 4, 6, 7, 8, 9, 10, 11, 30, 31, 32]), (20, [1, 2, 4, 6, 7, 8, 9, 10, 12, 30, 31, 32]), (21, [1, 2, 4, 6, 7, 8, 9, 10, 30, 31, 32, 44]), (22, [1, 2, 4, 6, 7, 8, 9, 10, 30, 31, 32]), (23, [1, 2, 4, 6, 7, 8, 9, 10, 30, 31, 32]), (24, [1, 2, 4, 6, 7, 8, 9, 30, 31, 32]), (25, [1, 2, 4, 6, 7, 30, 31, 32]), (26, [1, 2, 7]), (27, [1, 2])]
noncomputable def s15 : SCode := toS (planAt pl15) (keepAt kp15) (Tryd.f15.body.getD .skip)
theorem fn15 : FnIs Tryd.prog 15 125 [.cell 2 26, .tmp 3] s15 := FnIs.mk' (planAt pl15) (keepAt kp15) (by kernel_rfl)
def pl16 : List (Nat × Plan) := []
def kp16 : List (Nat × List Nat) := [(0, []), (1, [0])]
noncomputable def s16 : SCode := toS (planAt pl16) (keepAt kp16) (Tryd.f16.body.getD .skip)
theorem fn16 : FnIs Tryd.prog 16 12 [.cell 0 26] s16 := FnIs.mk' (planAt pl16) (keepAt kp16) (by kernel_rfl)
def pl17 : List (Nat × Plan) := []
def kp17 : List (Nat × List Nat) := [(0, [0]), (1, [1]), (2, [1, 3, 4]), (3, []), (4, [1]), (5, [1, 34, 35, 36]), (6, [1, 34, 35, 36]), (7, [1, 6, 34, 35, 36]), (8, []), (9, [1, 34, 35, 36]), (10, [1]), (11, [45, 46, 47]), (12, [45, 46, 47]), (13, [8, 45, 46, 47]), (14, []), (15, [8, 45, 46, 47]), (16, [45, 46, 47, 95, 96, 97]), (17, [45, 46, 47, 95, 96, 97]), (18, [10, 45, 46, 47, 95, 96, 97]), (19, []), (20, [45, 46, 47, 95, 96, 97]), (21, [45, 46, 47]), (22, [])]
noncomputable def s17 : SCode := toS (planAt pl17) (keepAt kp17) (Tryd.f17.body.getD .skip)
theorem fn17 : FnIs Tryd.prog 17 119 [.tmp 2] s17 := FnIs.mk' (planAt pl17) (keepAt kp17) (by kernel_rfl)
def pl18 : List (Nat × Plan) := []
def kp18 : List (Nat × List Nat) := [(0, [0]), (1, [1]), (2, []), (3, [1]), (4, [1, 39, 40]), (5, [1, 39, 40]), (6, [1, 4, 39, 40]), (7, []), (8, [1, 39, 40]), (9, [1]), (10, [1, 5]), (11, [1, 5, 6]), (12, [1, 5, 6]), (13, [1, 5, 6, 7]), (14, [1, 5, 6, 7]), (15, [1, 5, 6, 7, 8]), (16, [1, 5, 6, 7, 8]), (17, [1, 5, 6, 7, 8, 9]), (18, [1, 5, 6, 7, 8, 9, 10]), (19, [1, 5, 6, 7, 8, 9, 10, 11]), (20, []), (21, [1, 5, 6, 7, 8, 9, 10]), (22, [1, 5, 6, 7, 8, 9, 10, 118, 119, 120]), (23, [1, 5, 6, 7, 8, 9, 10, 118, 119, 120]), (24, [1, 5, 6, 7, 8, 9, 10, 12, 13, 118, 119, 120]), (25, [1, 5, 6, 7, 8, 9, 10, 12, 13, 14, 118, 119, 120]), (26, [1, 5, 6, 7, 8, 9, 10, 13, 118, 119, 120]), (27, [1, 5, 6, 7, 8, 9, 10, 13, 14, 118, 119, 120]), (28, [1, 5, 6, 7, 8, 9, 10, 13, 118, 119, 120]), (29, [1, 5, 6, 7, 8, 9, 10, 13, 14, 118, 119, 120]), (30, [1, 5, 6, 7, 8, 9, 10, 13, 14, 118, 119, 120]), (31, [1, 5, 6, 7, 8, 9, 10, 13, 118, 119, 120]), (32, [1, 5, 6, 7, 8, 9, 10, 13, 14, 118, 119, 120]), (33, []), (34, [1, 5, 6, 7, 8, 9, 10, 118, 119, 120]), (35, [5])]
noncomputable def s18 : SCode := toS (planAt pl18) (keepAt kp18) (Tryd.f18.body.getD .skip)
theorem fn18 : FnIs Tryd.prog 18 173 [.tmp 2, .tmp 3] s18 := FnIs.mk' (planAt pl18) (keepAt kp18) (by kernel_rfl)
def pl19 : List (Nat × Plan) := [(24, (.fl 0 (.fl 1 (.fl 2 (.fl 3 (.fl 4 (.fl 5 (.fl 6 (.fl 7 (.fl 8 (.eff 9 [] .done))))))))))), (29, (.fl 0 (.fl 1 (.fl 2 (.fl 3 (.fl 4 (.fl 5 (.fl 6 (.fl 7 (.fl 8 (.fl 9 (.eff 10 [1, 4, 6, 7, 8, 9] (.eff 11 [] .done))))))))))))), (30, (.fl 0 (.fl 1 (.fl 2 (.fl 3 (.fl 4 (.fl 5 (.fl 6 (.fl 7 (.fl 8 (.fl 9 (.fl 10 (.eff 11 [2, 3, 6, 7, 8] (.eff 12 [] .done))))))))))))))]
def kp19 : List (Nat × List Nat) := [(0, [0, 1]), (1, [1, 2]), (2, [1, 2, 5]), (3, [1, 2, 5, 6]), (4, [1, 2, 5, 6, 25, 26]), (5, [1, 2, 5, 6, 25, 26]), (6, [1, 2, 5, 6, 7, 25, 26]), (7, [1, 2, 5, 6, 25, 26]), (8, [1, 2, 5, 6]), (9, [1, 2, 5, 6, 8]), (10, [1, 2, 5, 6]), (11, [1, 2, 5, 6, 8]), (12, [1, 2, 5, 6, 8, 9]), (13, [1, 2, 5, 6, 8, 9]), (14, [1, 2, 5, 6, 8, 9]), (15, [1, 2, 5, 6, 8, 9]), (16, [1, 2, 5, 6, 8, 9, 10]), (17, [1, 2, 5, 6, 8, 9, 10, 60, 61, 62]), (18, [1, 2, 5, 6, 8, 9, 10, 60, 61, 62]), (19, [1, 2, 5, 6, 8, 9, 10, 11, 12, 60, 61, 62]), (20, [1, 2, 5, 6, 8, 9, 10, 11, 12, 13, 60, 61, 62]), (21, [1, 2, 5, 6, 8, 9, 10, 11, 12, 60, 61, 62]), (22, [1, 2, 5, 6, 8, 9, 10, 11, 12, 13, 60, 61, 62]), (23, [1, 2, 5, 6, 8, 9, 10, 12, 60, 61, 62]), (24, [1, 2, 5, 6, 8, 9, 10, 12, 13, 60, 61, 62]), (25, [1, 2, 5, 6, 9, 10, 60, 61, 62]), (26, [1, 2, 5, 6, 8, 9, 10, 60, 61, 62]), (27, [1, 2, 5, 6, 8, 9, 10]), (28, [1, 2, 5, 6, 8, 9, 10, 14]), (29, [1, 2, 5, 6, 8, 9, 10, 14]), (30, [1, 2, 5, 6, 8, 9, 10, 15]), (31, [1, 2, 5, 6, 9, 10]), (32, [1, 2, 5, 6, 8, 9, 10]), (33, [1, 2, 5, 6, 8, 9, 129, 130, 131]), (34, [1, 2, 5, 6, 8, 9, 129, 130, 131]), (35, [1, 2, 5, 6, 8, 9, 17, 129, 130, 131]), (36, [1, 2, 5, 6, 9, 17, 129, 130, 131]), (37, [1, 2, 5, 6, 9, 129, 130, 131]), (38, [1, 2, 5, 6, 8, 9, 129, 130, 131]), (39, [6])]
noncomputable def s19 : SCode := toS (planAt pl19) (keepAt kp19) (Tryd.f19.body.getD .skip)
theorem fn19 : FnIs Tryd.prog 19 150 [.tmp 4] s19 := FnIs.mk' (planAt pl19) (keepAt kp19) (by kernel_rfl)
def pl20 : List (Nat × Plan) := []
def kp20 : List (Nat × List Nat) := [(0, [0]), (1, [0]), (2, [0, 3]), (3, [0, 3, 7, 8]), (4, [0, 3, 7, 8]), (5, [0, 3, 4, 7, 8]), (6, [0, 3, 4, 7, 8]), (7, [0, 3, 7, 8]), (8, [3])]
noncomputable def s20 : SCode := toS (planAt pl20) (keepAt kp20) (Tryd.f20.body.getD .skip)
theorem fn20 : FnIs Tryd.prog 20 20 [.tmp 2] s20 := FnIs.mk' (planAt pl20) (keepAt kp20) (by kernel_rfl)
def pl21 : List (Nat × Plan) := []
def kp21 : List (Nat × List Nat) := [(0, [0]), (1, [1])]
noncomputable def s21 : SCode := toS (planAt pl21) (keepAt kp21) (Tryd.f21.body.getD .skip)
theorem fn21 : FnIs Tryd.prog 21 26 [.tmp 2] s21 := FnIs.mk' (planAt pl21) (keepAt kp21) (by kernel_rfl)
def pl22 : List (Nat × Plan) := []
def kp22 : List (Nat × List Nat) := [(0, [0]), (1, [1]), (2, [1, 4]), (3, [1, 4]), (4, [1, 4]), (5, [1, 4]), (6, [1]), (7, [1, 4]), (8, [1]), (9, [1, 4]), (10, [1]), (11, [])]
noncomputable def s22 : SCode := toS (planAt pl22) (keepAt kp22) (Tryd.f22.body.getD .skip)
theorem fn22 : FnIs Tryd.prog 22 21 [.tmp 2] s22 := FnIs.mk' (planAt pl22) (keepAt kp22) (by kernel_rfl)
def pl23 : List (Nat × Plan) := []
def kp23 : List (Nat × List Nat) := [(0, [0]), (1, [0]), (2, []), (3, [0])]
noncomputable def s23 : SCode := toS (planAt pl23) (keepAt kp23) (Tryd.f23.body.getD .skip)
theorem fn23 : FnIs Tryd.prog 23 8 [.tmp 2] s23 := FnIs.mk' (planAt pl23) (keepAt kp23) (by kernel_rfl)
def pl24 : List (Nat × Plan) := [(6, (.fl 0 (.fl 1 (.fl 2 (.fl 3 (.fl 4 (.fl 5 (.fl 6 (.fl 7 (.fl 8 .done))))))))))]
def kp24 : List (Nat × List Nat) := [(0, [0, 1]), (1, [0, 1]), (2, []), (3, [0, 1]), (4, [0, 1, 12, 13]), (5, [0, 1, 12, 13]), (6, [0, 1, 5, 12, 13]), (7, []), (8, [0, 1, 12, 13]), (9, [])]
noncomputable def s24 : SCode := toS (planAt pl24) (keepAt kp24) (Tryd.f24.body.getD .skip)
theorem fn24 : FnIs Tryd.prog 24 26 [.tmp 4] s24 := FnIs.mk' (planAt pl24) (keepAt kp24) (by kernel_rfl)
def pl25 : List (Nat × Plan) := []
def kp25 : List (Nat × List Nat) := [(0, [0, 1, 2]), (1, [0, 1, 2]), (2, [0, 1, 2, 7]), (3, [0, 2, 7, 12, 13, 14]), (4, [0, 2, 7, 12, 13, 14]), (5, [0, 2, 7, 8, 9, 12, 13, 14]), (6, [0, 2, 7, 8, 9, 12, 13, 14, 19, 20, 21]), (7, [0, 2, 7, 8, 9, 12, 13, 14, 19, 20, 21]), (8, [0, 2, 7, 8, 9, 11, 12, 13, 14, 19, 20, 21]), (9, [0, 2, 7, 8, 9, 11, 12, 13, 14, 19, 20, 21]), (10, [0, 2, 7, 8, 9, 12, 13, 14, 19, 20, 21]), (11, [0, 2, 7, 8, 9, 12, 13, 14]), (12, [0, 2, 8, 9, 12, 13, 14]), (13, [0, 2, 7, 8, 9, 12, 13, 14]), (14, [0, 2, 7, 12, 13, 14]), (15, [7])]
noncomputable def s25 : SCode := toS (planAt pl25) (keepAt kp25) (Tryd.f25.body.getD .skip)
theorem fn25 : FnIs Tryd.prog 25 51 [.tmp 6] s25 := FnIs.mk' (planAt pl25) (keepAt kp25) (by kernel_rfl)
def pl26 : List (Nat × Plan) := [(9, (.fl 0 (.fl 1 (.fl 2 (.fl 3 (.fl 4 (.fl 5 .done)))))))]
def kp26 : List (Nat × List Nat) := [(0, [0]), (1, [0]), (2, [4]), (3, [4, 5]), (4, [4, 5]), (5, [4, 5]), (6, [4, 5]), (7, [4, 5]), (8, [4, 5]), (9, [4]), (10, [5])]
noncomputable def s26 : SCode := toS (planAt pl26) (keepAt kp26) (Tryd.f26.body.getD .skip)
theorem fn26 : FnIs Tryd.prog 26 32 [.tmp 2, .tmp 3] s26 := FnIs.mk' (planAt pl26) (keepAt kp26) (by kernel_rfl)
def pl27 : List (Nat × Plan) := []
def kp27 : List (Nat × List Nat) := [(0, [0]), (1, [0]), (2, [0, 3]), (3, [3, 6, 7, 8]), (4, [3, 6, 7, 8]), (5, [3, 5, 6, 7, 8]), (6, [3, 6, 7, 8]), (7, [3])]
noncomputable def s27 : SCode := toS (planAt pl27) (keepAt kp27) (Tryd.f27.body.getD .skip)
theorem fn27 : FnIs Tryd.prog 27 18 [.tmp 2] s27 := FnIs.mk' (planAt pl27) (keepAt kp27) (by kernel_rfl)
def pl28 : List (Nat × Plan) := [(6, (.fl 0 (.fl 1 (.fl 2 (.fl 3 (.fl 4 (.fl 5 (.fl 6 (.fl 7 (.eff 8 [] (.fl 9 .done)))))))))))]
def kp28 : List (Nat × List Nat) := [(0, [0, 1]), (1, [0, 1]), (2, []), (3, [0, 1]), (4, [0, 1, 12, 13]), (5, [0, 1, 12, 13]), (6, [0, 1, 5, 12, 13]), (7, []), (8, [0, 1, 12, 13]), (9, [])]
noncomputable def s28 : SCode := toS (planAt pl28) (keepAt kp28) (Tryd.f28.body.getD .skip)
theorem fn28 : FnIs Tryd.prog 28 27 [.tmp 4] s28 := FnIs.mk' (planAt pl28) (keepAt kp28) (by kernel_rfl)
def pl29 : List (Nat × Plan) := []
def kp29 : List (Nat × List Nat) := [(0, [0]), (1, [0]), (2, [5, 6, 7]), (3, [5, 6, 7]), (4, [4, 5, 6, 7]), (5, []), (6, [5, 6, 7]), (7, [])]
noncomputable def s29 : SCode := toS (planAt pl29) (keepAt kp29) (Tryd.f29.body.getD .skip)
theorem fn29 : FnIs Tryd.prog 29 15 [.tmp 2] s29 := FnIs.mk' (planAt pl29) (keepAt kp29) (by kernel_rfl)
def pl30 : List (Nat × Plan) := []
def kp30 : List (Nat × List Nat) := [(0, [0, 1]), (1, [1, 2]), (2, [1, 2, 5]), (3, []), (4, [1, 2, 5]), (5, [2, 5, 45, 46, 47]), (6, [2, 5, 45, 46, 47]), (7, [2, 5, 7, 45, 46, 47]), (8, []), (9, [2, 5, 45, 46, 47]), (10, [2, 5])]
noncomputable def s30 : SCode := toS (planAt pl30) (keepAt kp30) (Tryd.f30.body.getD .skip)
theorem fn30 : FnIs Tryd.prog 30 74 [.tmp 4] s30 := FnIs.mk' (planAt pl30) (keepAt kp30) (by kernel_rfl)
def pl31 : List (Nat × Plan) := []
def kp31 : List (Nat × List Nat) := [(0, [0]), (1, [0]), (2, [3]), (3, [3]), (4, [3]), (5, [3]), (6, [3]), (7, []), (8, [])]
noncomputable def s31 : SCode := toS (planAt pl31) (keepAt kp31) (Tryd.f31.body.getD .skip)
theorem fn31 : FnIs Tryd.prog 31 10 [.tmp 2] s31 := FnIs.mk' (planAt pl31) (keepAt kp31) (by kernel_rfl)
def pl32 : List (Nat × Plan) := []
def kp32 : List (Nat × List Nat) := [(0, [0, 1]), (1, [0, 3]), (2, [0, 3, 6]), (3, [3]), (4, [0, 3, 6]), (5, [0, 3, 6]), (6, [0, 3, 6]), (7, []), (8, [0, 3, 6]), (9, [0, 3, 6]), (10, [0, 3]), (11, [0, 3]), (12, [0, 3]), (13, [0])]
noncomputable def s32 : SCode := toS (planAt pl32) (keepAt kp32) (Tryd.f32.body.getD .skip)
theorem fn32 : FnIs Tryd.prog 32 40 [.tmp 4] s32 := FnIs.mk' (planAt pl32) (keepAt kp32) (by kernel_rfl)
def pl33 : List (Nat × Plan) := [(6, (.fl 0 (.fl 1 (.fl 2 (.fl 3 (.fl 4 (.fl 5 (.fl 6 (.fl 7 (.fl 8 .done))))))))))]
def kp33 : List (Nat × List Nat) := [(0, [0, 1]), (1, [0, 1]), (2, []), (3, [0, 1]), (4, [0, 1, 12, 13]), (5, [0, 1, 12, 13]), (6, [0, 1, 5, 12, 13]), (7, []), (8, [0, 1, 12, 13]), (9, [])]
noncomputable def s33 : SCode := toS (planAt pl33) (keepAt kp33) (Tryd.f33.body.getD .skip)
theorem fn33 : FnIs Tryd.prog 33 26 [.tmp 4] s33 := FnIs.mk' (planAt pl33) (keepAt kp33) (by kernel_rfl)
def pl34 : List (Nat × Plan) := []
def kp34 : List (Nat × List Nat) := [(0, [0]), (1, [1]), (2, [1, 3]), (3, [1, 3, 4]), (4, [1, 3, 4]), (5, [1, 3, 4, 5]), (6, [1, 3, 4, 5]), (7, [1, 3, 4, 5]), (8, [1, 3, 4, 5]), (9, [3])]
noncomputable def s34 : SCode := toS (planAt pl34) (keepAt kp34) (Tryd.f34.body.getD .skip)
theorem fn34 : FnIs Tryd.prog 34 52 [.tmp 2] s34 := FnIs.mk' (planAt pl34) (keepAt kp34) (by kernel_rfl)
def pl35 : List (Nat × Plan) := []
def kp35 : List (Nat × List Nat) := [(0, [0]), (1, [1]), (2, [1, 4]), (3, [1, 4]), (4, [1, 4]), (5, [1, 4]), (6, [1]), (7, [1, 4]), (8, [1]), (9, [1, 4]), (10, [1]), (11, [])]
noncomputable def s35 : SCode := toS (planAt pl35) (keepAt kp35) (Tryd.f35.body.getD .skip)
theorem fn35 : FnIs Tryd.prog 35 23 [.tmp 2] s35 := FnIs.mk' (planAt pl35) (keepAt kp35) (by kernel_rfl)
def pl36 : List (Nat × Plan) := []
def kp36 : List (Nat × List Nat) := [(0, [0]), (1, [0])]
noncomputable def s36 : SCode := toS (planAt pl36) (keepAt kp36) (Tryd.f36.body.getD .skip)
theorem fn36 : FnIs Tryd.prog 36 17 [.tmp 2] s36 := FnIs.mk' (planAt pl36) (keepAt kp36) (by kernel_rfl)
def pl37 : List (Nat × Plan) := []
def kp37 : List (Nat × List Nat) := [(0, [0, 1]), (1, [2, 3]), (2, [2, 3, 9]), (3, [3]), (4, [2, 3, 9]), (5, [2, 3, 9]), (6, [3]), (7, [2, 3, 9]), (8, [2, 3, 9]), (9, [2, 3, 9]), (10, [2, 3, 9]), (11, [3]), (12, [2, 3, 9]), (13, [2, 3, 9]), (14, [3]), (15, [2, 3, 9]), (16, [3]), (17, [2, 9]), (18, [2]), (19, [2, 5]), (20, [5, 48, 49, 50]), (21, [5, 48, 49, 50]), (22, [5, 6, 7, 48, 49, 50]), (23, [5, 6, 48, 49, 50]), (24, [5, 48, 49, 50]), (25, [5]), (26, [])]
noncomputable def s37 : SCode := toS (planAt pl37) (keepAt kp37) (Tryd.f37.body.getD .skip)
theorem fn37 : FnIs Tryd.prog 37 63 [.tmp 4] s37 := FnIs.mk' (planAt pl37) (keepAt kp37) (by kernel_rfl)
def pl38 : List (Nat × Plan) := []
def kp38 : List (Nat × List Nat) := [(0, [0, 1]), (1, [0, 1])]
noncomputable def s38 : SCode := toS (planAt pl38) (keepAt kp38) (Tryd.f38.body.getD .skip)
theorem fn38 : FnIs Tryd.prog 38 15 [.tmp 4] s38 := FnIs.mk' (planAt pl38) (keepAt kp38) (by kernel_rfl)
def pl39 : List (Nat × Plan) := [(0, (.fl 0 (.fl 1 (.fl 2 (.fl 3 (.fl 4 (.fl 5 (.fl 6 (.fl 7 (.fl 8 (.fl 9 (.eff 10 [] .done))))))))))))]
def kp39 : List (Nat × List Nat) := [(0, [0, 1])]
noncomputable def s39 : SCode := toS (planAt pl39) (keepAt kp39) (Tryd.f39.body.getD .skip)
theorem fn39 : FnIs Tryd.prog 39 14 [] s39 := FnIs.mk' (planAt pl39) (keepAt kp39) (by kernel_rfl)
def pl40 : List (Nat × Plan) := []
def kp40 : List (Nat × List Nat) := [(0, [0]), (1, [0]), (2, [3, 4])]
noncomputable def s40 : SCode := toS (planAt pl40) (keepAt kp40) (Tryd.f40.body.getD .skip)
theorem fn40 : FnIs Tryd.prog 40 14 [.tmp 2] s40 := FnIs.mk' (planAt pl40) (keepAt kp40) (by kernel_rfl)
def pl41 : List (Nat × Plan) := [(1, (.fl 0 (.fl 1 (.fl 2 (.fl 3 (.fl 4 (.fl 5 (.fl 6 (.fl 7 (.fl 8 (.fl 9 (.fl 10 (.fl 11 (.fl 12 (.fl 13 (.fl 14 (.fl 15 (.fl 16 (.fl 17 .done)))))))))))))))))))]
def kp41 : List (Nat × List Nat) := [(0, [0]), (1, [0])]
noncomputable def s41 : SCode := toS (planAt pl41) (keepAt kp41) (Tryd.f41.body.getD .skip)
theorem fn41 : FnIs Tryd.prog 41 20 [.tmp 2] s41 := FnIs.mk' (planAt pl41) (keepAt kp41) (by kernel_rfl)
def pl42 : List (Nat × Plan) := []
def kp42 : List (Nat × List Nat) := [(0, [0, 1]), (1, [0, 1])]
noncomputable def s42 : SCode := toS (planAt pl42) (keepAt kp42) (Tryd.f42.body.getD .skip)
theorem fn42 : FnIs Tryd.prog 42 13 [] s42 := FnIs.mk' (planAt pl42) (keepAt kp42) (by kernel_rfl)
def pl43 : List (Nat × Plan) := [(13, (.fl 0 (.fl 1 (.fl 2 (.eff 3 [1] (.eff 4 [1] (.eff 5 [] (.fl 6 (.eff 7 [] .done))))))))), (15, (.fl 0 (.fl 1 (.fl 2 (.eff 3 [1] (.eff 4 [1] (.eff 5 [] (.fl 6 (.eff 7 [] .done))))))))), (17, (.fl 0 (.fl 1 (.fl 2 (.eff 3 [1] (.eff 4 [1] (.eff 5 [] (.fl 6 (.eff 7 [] .done))))))))), (22, (.fl 0 (.fl 1 (.fl 2 (.eff 3 [1] (.eff 4 [1] (.eff 5 [] (.fl 6 (.eff 7 [] .done))))))))), (5, (.fl 0 (.fl 1 (.fl 2 (.eff 3 [1] (.eff 4 [1] (.eff 5 [] (.fl 6 (.eff 7 [] .done)))))))))]
def kp43 : List (Nat × List Nat) := [(0, [0]), (1, [0, 2]), (2, [0, 2, 3]), (3, [0, 2, 3]), (4, [0, 2, 3]), (5, [0, 2, 3]), (6, [0, 2, 3]), (7, [0, 2, 3]), (8, [0, 2, 3]), (9, [0, 2, 3]), (10, [0, 2, 3]), (11, [0, 2, 3]), (12, [0, 2, 3]), (13, [0, 2, 3]), (14, [0, 2, 3]), (15, [0, 2, 3]), (16, [0, 2, 3]), (17, [0, 2, 3]), (18, [0, 2, 3]), (19, [0, 2, 3]), (20, [0, 2, 3]), (21, [0, 2, 3]), (22, [0, 2, 3]), (23, [0, 2, 3]), (24, [0, 2, 3]), (25, [0, 2, 3]), (26, [0, 2, 3]), (27, [0, 2, 3]), (28, [0, 2, 3, 4]), (29, [0, 2, 3, 4]), (30, [0, 2, 3, 4]), (31, [0, 2, 3]), (32, [0, 2, 3]), (33, [0, 2, 3]), (34, [2, 3]), (35, [0, 2, 3]), (36, [2, 3]), (37, [0, 2, 3]), (38, [2, 3]), (39, [0, 2, 3]), (40, [2, 3]), (41, [2, 3])]
noncomputable def s43 : SCode := toS (planAt pl43) (keepAt kp43) (Tryd.f43.body.getD .skip)
theorem fn43 : FnIs Tryd.prog 43 158 [.cell 2 83] s43 := FnIs.mk' (planAt pl43) (keepAt kp43) (by kernel_rfl)
def pl44 : List (Nat × Plan) := []
def kp44 : List (Nat × List Nat) := [(0, [0, 1]), (1, [0])]
noncomputable def s44 : SCode := toS (planAt pl44) (keepAt kp44) (Tryd.f44.body.getD .skip)
theorem fn44 : FnIs Tryd.prog 44 17 [] s44 := FnIs.mk' (planAt pl44) (keepAt kp44) (by kernel_rfl)
def pl45 : List (Nat × Plan) := [(1, (.fl 0 (.fl 1 (.fl 2 (.fl 3 (.fl 4 (.fl 5 (.fl 6 (.fl 7 (.fl 8 (.fl 9 (.fl 10 (.fl 11 (.fl 12 (.fl 13 (.fl 14 (.fl 15 (.fl 16 .done))))))))))))))))))]
def kp45 : List (Nat × List Nat) := [(0, [0]), (1, [0]), (2, [0]), (3, [0])]
noncomputable def s45 : SCode := toS (planAt pl45) (keepAt kp45) (Tryd.f45.body.getD .skip)
theorem fn45 : FnIs Tryd.prog 45 27 [.tmp 2] s45 := FnIs.mk' (planAt pl45) (keepAt kp45) (by kernel_rfl)
def pl46 : List (Nat × Plan) := [(8, (.fl 0 (.fl 1 (.fl 2 (.fl 3 (.fl 4 (.eff 5 [2] (.eff 6 [2] (.fl 7 (.eff 8 [] (.eff 9 [] (.eff 10 [] .done)))))))))))), (10, (.fl 0 (.fl 1 (.fl 2 (.fl 3 (.fl 4 (.fl 8 (.eff 5 [1] (.fl 6 (.fl 7 (.eff 9 [1] (.fl 10 (.fl 11 .done))))))))))))), (12, (.fl 0 (.fl 1 (.fl 2 (.fl 3 (.fl 4 (.eff 5 [1] (.eff 6 [1] (.fl 7 (.fl 8 .done)))))))))), (23, (.fl 0 (.fl 1 (.fl 2 (.fl 3 (.eff 4 [1] (.fl 5 (.fl 6 (.fl 7 .done))))))))), (27, (.fl 0 (.fl 1 (.fl 2 (.fl 3 (.eff 4 [1] (.eff 5 [1] (.fl 6 (.fl 7 .done)))))))))]
def kp46 : List (Nat × List Nat) := [(0, [0]), (1, [1]), (2, [1, 3]), (3, [1, 3, 12]), (4, [1]), (5, [1, 4]), (6, [1, 4, 17, 18, 19]), (7, [1, 4, 17, 18, 19]), (8, [1, 4, 6, 17, 18, 19]), (9, [1, 4, 17, 18, 19]), (10, [1, 4]), (11, [1, 3, 12]), (12, [1]), (13, [1, 3, 12]), (14, [1]), (15, [1, 7]), (16, [1, 7, 59, 60, 61]), (17, [1, 7, 59, 60, 61]), (18, [1, 7, 9, 59, 60, 61]), (19, [1, 7, 9, 10, 59, 60, 61]), (20, [1, 7, 59, 60, 61]), (21, [1, 7, 10, 59, 60, 61]), (22, [1, 7, 59, 60, 61]), (23, [1, 7]), (24, [1, 3]), (25, [1, 3]), (26, [1, 3, 12]), (27, [1]), (28, [1, 3]), (29, [1, 3]), (30, [3])]
noncomputable def s46 : SCode := toS (planAt pl46) (keepAt kp46) (Tryd.f46.body.getD .skip)
theorem fn46 : FnIs Tryd.prog 46 115 [.tmp 2] s46 := FnIs.mk' (planAt pl46) (keepAt kp46) (by kernel_rfl)
def pl47 : List (Nat × Plan) := [(6, (.fl 0 (.fl 1 (.fl 2 (.fl 3 (.fl 4 (.fl 5 (.fl 6 (.fl 7 (.fl 8 (.fl 9 (.fl 10 .done)))))))))))), (12, (.fl 0 (.fl 1 (.fl 2 (.fl 3 (.fl 4 (.fl 5 (.fl 6 (.fl 7 (.fl 8 (.fl 9 (.fl 10 .done)))))))))))), (18, (.fl 0 (.fl 1 (.fl 2 (.fl 3 (.fl 4 (.fl 5 (.fl 6 (.fl 7 (.fl 8 (.fl 9 (.fl 10 (.fl 11 (.fl 12 (.fl 13 (.fl 14 (.fl 15 (.fl 16 (.fl 17 (.fl 18 (.fl 19 (.fl 20 (.fl 21 (.fl 22 (.fl 23 (.fl 24 (.fl 25 (.eff 26 [] (.fl 27 (.fl 28 .done))))))))))))))))))))))))))))))]
def kp47 : List (Nat × List Nat) := [(0, [0, 1]), (1, [2, 3]), (2, []), (3, [2, 3]), (4, [2, 3, 80, 81]), (5, [2, 3, 80, 81]), (6, [2, 3, 5, 80, 81]), (7, []), (8, [2, 3, 80, 81]), (9, [2, 3]), (10, [2, 3, 98, 99]), (11, [2, 3, 98, 99]), (12, [2, 3, 6, 98, 99]), (13, []), (14, [2, 3, 98, 99]), (15, [2, 3]), (16, [2, 3, 116, 117]), (17, [2, 3, 116, 117]), (18, [2, 3, 7, 116, 117]), (19, []), (20, [2, 3, 116, 117]), (21, [])]
noncomputable def s47 : SCode := toS (planAt pl47) (keepAt kp47) (Tryd.f47.body.getD .skip)
theorem fn47 : FnIs Tryd.prog 47 150 [.tmp 4] s47 := FnIs.mk' (planAt pl47) (keepAt kp47) (by kernel_rfl)
def pl48 : List (Nat × Plan) := [(10, (.fl 0 (.fl 1 (.fl 2 (.fl 3 (.fl 4 (.eff 5 [3] (.fl 6 (.eff 7 [] .done)))))))))]
def kp48 : List (Nat × List Nat) := [(0, [0, 1]), (1, [1, 2]), (2, [1, 2, 5]), (3, []), (4, [1, 2, 5, 12]), (5, [1, 2, 5, 12]), (6, [1, 2, 5]), (7, [1, 2, 5, 12]), (8, [1, 2, 5]), (9, [1, 2, 5, 12]), (10, [1, 2, 5]), (11, [1, 2, 5]), (12, []), (13, [1, 2]), (14, [1, 71, 72, 73]), (15, [1, 71, 72, 73]), (16, [1, 7, 71, 72, 73]), (17, []), (18, [1, 71, 72, 73]), (19, [])]
noncomputable def s48 : SCode := toS (planAt pl48) (keepAt kp48) (Tryd.f48.body.getD .skip)
theorem fn48 : FnIs Tryd.prog 48 83 [.tmp 4] s48 := FnIs.mk' (planAt pl48) (keepAt kp48) (by kernel_rfl)
def pl49 : List (Nat × Plan) := []
def kp49 : List (Nat × List Nat) := [(0, [0, 1]), (1, [1, 2])]
noncomputable def s49 : SCode := toS (planAt pl49) (keepAt kp49) (Tryd.f49.body.getD .skip)
theorem fn49 : FnIs Tryd.prog 49 14 [.tmp 4] s49 := FnIs.mk' (planAt pl49) (keepAt kp49) (by kernel_rfl)
def pl50 : List (Nat × Plan) := []
def kp50 : List (Nat × List Nat) := [(0, [0, 1]), (1, [0, 1])]
noncomputable def s50 : SCode := toS (planAt pl50) (keepAt kp50) (Tryd.f50.body.getD .skip)
theorem fn50 : FnIs Tryd.prog 50 9 [.tmp 4] s50 := FnIs.mk' (planAt pl50) (keepAt kp50) (by kernel_rfl)
def pl51 : List (Nat × Plan) := []
def kp51 : List (Nat × List Nat) := [(0, [0, 1]), (1, [0, 1])]
noncomputable def s51 : SCode := toS (planAt pl51) (keepAt kp51) (Tryd.f51.body.getD .skip)
theorem fn51 : FnIs Tryd.prog 51 7 [.tmp 3] s51 := FnIs.mk' (planAt pl51) (keepAt kp51) (by kernel_rfl)
def pl52 : List (Nat × Plan) := []
def kp52 : List (Nat × List Nat) := [(0, [0, 1]), (1, [0, 1])]
noncomputable def s52 : SCode := toS (planAt pl52) (keepAt kp52) (Tryd.f52.body.getD .skip)
theorem fn52 : FnIs Tryd.prog 52 7 [.tmp 3] s52 := FnIs.mk' (planAt pl52) (keepAt kp52) (by kernel_rfl)
def pl53 : List (Nat × Plan) := []
def kp53 : List (Nat × List Nat) := [(0, [0]), (1, [0]), (2, []), (3, [0]), (4, [5, 6]), (5, []), (6, [5])]
noncomputable def s53 : SCode := toS (planAt pl53) (keepAt kp53) (Tryd.f53.body.getD .skip)
theorem fn53 : FnIs Tryd.prog 53 19 [.tmp 2, .tmp 3] s53 := FnIs.mk' (planAt pl53) (keepAt kp53) (by kernel_rfl)
def pl54 : List (Nat × Plan) := []
def kp54 : List (Nat × List Nat) := [(0, [0, 1]), (1, [0, 1]), (2, [0]), (3, []), (4, [])]
noncomputable def s54 : SCode := toS (planAt pl54) (keepAt kp54) (Tryd.f54.body.getD .skip)
theorem fn54 : FnIs Tryd.prog 54 15 [.tmp 4] s54 := FnIs.mk' (planAt pl54) (keepAt kp54) (by kernel_rfl)
def pl55 : List (Nat × Plan) := [(1, (.fl 0 (.eff 1 [] (.fl 2 (.fl 3 (.fl 4 (.fl 5 (.fl 6 (.fl 7 (.fl 8 (.fl 9 (.fl 10 (.fl 11 (.fl 12 (.fl 13 (.fl 14 (.fl 15 (.fl 16 (.fl 17 (.fl 18 (.fl 19 (.fl 20 (.fl 21 (.fl 22 (.fl 23 (.fl 24 (.fl 25 (.fl 26 (.fl 27 (.fl 28 (.fl 29 (.fl 30 (.fl 31 (.eff 32 [] (.fl 33 (.fl 34 .done)))))))))))))))))))))))))))))))))))), (5, (.fl 0 (.fl 1 (.fl 2 (.fl 3 (.fl 4 (.fl 5 (.fl 6 (.fl 7 (.fl 8 (.fl 9 (.fl 10 (.fl 11 (.fl 12 .done))))))))))))))]
def kp55 : List (Nat × List Nat) := [(0, [0, 1]), (1, [0, 1]), (2, [0]), (3, []), (4, [0]), (5, [0])]
noncomputable def s55 : SCode := toS (planAt pl55) (keepAt kp55) (Tryd.f55.body.getD .skip)
theorem fn55 : FnIs Tryd.prog 55 61 [.tmp 4] s55 := FnIs.mk' (planAt pl55) (keepAt kp55) (by kernel_rfl)
def pl56 : List (Nat × Plan) := []
def kp56 : List (Nat × List Nat) := [(0, [0, 1]), (1, [0, 1]), (2, [0, 1]), (3, []), (4, [0, 1]), (5, []), (6, [0, 1]), (7, [0, 1]), (8, [0]), (9, [0])]
noncomputable def s56 : SCode := toS (planAt pl56) (keepAt kp56) (Tryd.f56.body.getD .skip)
theorem fn56 : FnIs Tryd.prog 56 35 [.tmp 4] s56 := FnIs.mk' (planAt pl56) (keepAt kp56) (by kernel_rfl)
def pl57 : List (Nat × Plan) := [(3, (.fl 0 (.fl 1 (.fl 2 (.eff 3 [1] (.eff 4 [1] (.eff 5 [] (.fl 6 (.eff 7 [] .done)))))))))]
def kp57 : List (Nat × List Nat) := [(0, [0]), (1, [0, 2]), (2, [0, 2, 3]), (3, [0, 2, 3]), (4, [2, 3])]
noncomputable def s57 : SCode := toS (planAt pl57) (keepAt kp57) (Tryd.f57.body.getD .skip)
theorem fn57 : FnIs Tryd.prog 57 27 [.cell 2 108] s57 := FnIs.mk' (planAt pl57) (keepAt kp57) (by kernel_rfl)
def pl58 : List (Nat × Plan) := [(2, (.fl 0 (.eff 1 [] (.fl 2 (.fl 3 (.fl 4 (.fl 5 (.fl 6 (.fl 7 (.fl 8 (.fl 9 (.fl 10 (.fl 11 (.fl 12 (.fl 13 (.fl 14 (.fl 15 (.fl 16 .done)))))))))))))))))), (4, (.fl 0 (.fl 1 (.fl 2 (.fl 3 (.fl 4 (.fl 5 (.fl 6 (.fl 7 (.fl 8 (.fl 9 (.fl 10 (.fl 11 (.eff 12 [] (.eff 13 [] .done))))))))))))))), (9, (.fl 0 (.fl 1 (.fl 2 (.fl 3 (.fl 4 (.eff 5 [1] (.eff 6 [1] (.eff 7 [] (.fl 8 (.eff 9 [] .done)))))))))))]
def kp58 : List (Nat × List Nat) := [(0, [0, 1]), (1, [0, 1, 4]), (2, [0, 1, 4]), (3, [0, 4]), (4, [0, 4]), (5, [0, 1, 4]), (6, [4]), (7, [0, 1, 4]), (8, [0, 1, 4, 5]), (9, [0, 1, 4, 5]), (10, [4, 5])]
noncomputable def s58 : SCode := toS (planAt pl58) (keepAt kp58) (Tryd.f58.body.getD .skip)
theorem fn58 : FnIs Tryd.prog 58 74 [.cell 4 111] s58 := FnIs.mk' (planAt pl58) (keepAt kp58) (by kernel_rfl)
def pl59 : List (Nat × Plan) := [(2, (.fl 0 (.eff 1 [] (.fl 2 (.fl 3 (.fl 4 (.fl 5 (.fl 6 (.fl 7 (.fl 8 (.fl 9 (.fl 10 (.fl 11 (.fl 12 (.fl 13 (.fl 14 (.fl 15 (.fl 16 .done)))))))))))))))))), (4, (.fl 0 (.fl 1 (.fl 2 (.fl 3 (.fl 4 (.fl 5 (.fl 6 (.fl 7 (.fl 8 (.fl 9 (.fl 10 (.fl 11 (.eff 12 [] (.eff 13 [] .done))))))))))))))), (5, (.fl 0 (.eff 1 [] (.fl 2 (.fl 3 (.fl 4 (.fl 5 (.fl 6 (.fl 7 (.fl 8 (.fl 9 (.fl 10 (.fl 11 (.fl 12 (.fl 13 (.fl 14 (.fl 15 (.fl 16 .done)))))))))))))))))), (7, (.fl 0 (.fl 1 (.fl 2 (.fl 3 (.fl 4 (.fl 5 (.fl 6 (.fl 7 (.fl 8 (.fl 9 (.fl 10 (.fl 11 (.eff 12 [] (.eff 13 [] .done))))))))))))))), (10, (.fl 0 (.fl 1 (.fl 2 (.fl 3 (.fl 4 (.eff 5 [1] (.eff 6 [1] (.eff 7 [] (.fl 8 (.eff 9 [] .done)))))))))))]
def kp59 : List (Nat × List Nat) := [(0, [0, 1]), (1, [0, 1, 4]), (2, [0, 1, 4]), (3, [0, 4]), (4, [0, 4]), (5, [0, 1, 4]), (6, [0, 4]), (7, [0, 4]), (8, [0, 1, 4]), (9, [0, 1, 4, 5]), (10, [0, 1, 4, 5]), (11, [4, 5])]
noncomputable def s59 : SCode := toS (planAt pl59) (keepAt kp59) (Tryd.f59.body.getD .skip)
theorem fn59 : FnIs Tryd.prog 59 108 [.cell 4 78] s59 := FnIs.mk' (planAt pl59) (keepAt kp59) (by kernel_rfl)
def pl60 : List (Nat × Plan) := []
def kp60 : List (Nat × List Nat) := [(0, [0, 1]), (1, [0, 1, 4]), (2, [0, 1, 4, 5]), (3, [0, 1, 4, 5]), (4, [0, 1, 4, 5, 6]), (5, [0, 1, 4, 5, 6]), (6, [0, 1, 4, 5, 6]), (7, [0, 1, 4, 5, 6]), (8, [0, 1, 4, 5, 6]), (9, [0, 1, 4, 5]), (10, [4, 5]), (11, [4, 5]), (12, [4, 5])]
noncomputable def s60 : SCode := toS (planAt pl60) (keepAt kp60) (Tryd.f60.body.getD .skip)
theorem fn60 : FnIs Tryd.prog 60 50 [.cell 4 81] s60 := FnIs.mk' (planAt pl60) (keepAt kp60) (by kernel_rfl)
def pl61 : List (Nat × Plan) := []
def kp61 : List (Nat × List Nat) := [(0, [0]), (1, [0]), (2, []), (3, [0])]
noncomputable def s61 : SCode := toS (planAt pl61) (keepAt kp61) (Tryd.f61.body.getD .skip)
theorem fn61 : FnIs Tryd.prog 61 10 [.tmp 2] s61 := FnIs.mk' (planAt pl61) (keepAt kp61) (by kernel_rfl)
def pl62 : List (Nat × Plan) := []
def kp62 : List (Nat × List Nat) := [(0, [0]), (1, [0]), (2, [0, 3]), (3, [3, 7, 8, 9]), (4, [3, 7, 8, 9]), (5, [3, 5, 7, 8, 9]), (6, [3, 7, 8, 9]), (7, [3])]
noncomputable def s62 : SCode := toS (planAt pl62) (keepAt kp62) (Tryd.f62.body.getD .skip)
theorem fn62 : FnIs Tryd.prog 62 20 [.tmp 2] s62 := FnIs.mk' (planAt pl62) (keepAt kp62) (by kernel_rfl)
def pl63 : List (Nat × Plan) := []
def kp63 : List (Nat × List Nat) := [(0, [0, 1]), (1, [0, 1]), (2, [0, 1, 5]), (3, [1, 5, 8, 9, 10]), (4, [1, 5, 8, 9, 10]), (5, [1, 5, 6, 7, 8, 9, 10]), (6, [1, 5, 7, 8, 9, 10]), (7, [1, 5, 7, 8, 9, 10]), (8, [1, 5, 8, 9, 10]), (9, [5])]
noncomputable def s63 : SCode := toS (planAt pl63) (keepAt kp63) (Tryd.f63.body.getD .skip)
theorem fn63 : FnIs Tryd.prog 63 25 [.tmp 4] s63 := FnIs.mk' (planAt pl63) (keepAt kp63) (by kernel_rfl)
def pl64 : List (Nat × Plan) := []
def kp64 : List (Nat × List Nat) := [(0, [0]), (1, [0]), (2, [0, 3]), (3, [3, 7, 8, 9]), (4, [3, 7, 8, 9]), (5, [3, 5, 7, 8, 9]), (6, [3, 7, 8, 9]), (7, [3])]
noncomputable def s64 : SCode := toS (planAt pl64) (keepAt kp64) (Tryd.f64.body.getD .skip)
theorem fn64 : FnIs Tryd.prog 64 20 [.tmp 2] s64 := FnIs.mk' (planAt pl64) (keepAt kp64) (by kernel_rfl)
def pl65 : List (Nat × Plan) := [(18, (.fl 0 (.fl 1 (.fl 4 (.fl 5 (.eff 2 [5] (.fl 3 (.eff 6 [] (.fl 7 (.fl 8 .done)))))))))), (20, (.fl 0 (.fl 1 (.fl 2 (.fl 3 (.eff 4 [1] (.eff 5 [1] (.fl 6 (.fl 7 .done)))))))))]
def kp65 : List (Nat × List Nat) := [(0, [0]), (1, [1]), (2, [1, 3]), (3, [1, 3, 10, 11, 12]), (4, [1, 3, 10, 11, 12]), (5, [1, 3, 5, 10, 11, 12]), (6, [1, 3, 10, 11, 12]), (7, [1, 3]), (8, [1, 3, 6, 7]), (9, [1, 3, 7]), (10, [1, 3, 6, 7]), (11, [1, 3, 6]), (12, [1, 3, 6, 7]), (13, [1, 3, 6, 7, 37]), (14, []), (15, [1, 3, 6, 7, 37]), (16, []), (17, [1, 3, 6, 7, 37]), (18, [1]), (19, [1, 3, 6, 7, 37]), (20, [1]), (21, [1, 3, 6, 7, 37]), (22, [3]), (23, [1, 3, 6, 7, 37]), (24, [3]), (25, [1, 6, 7, 37]), (26, [6]), (27, [1, 6, 7, 37]), (28, [1]), (29, [1, 6, 7, 37]), (30, [1, 6, 7]), (31, [])]
noncomputable def s65 : SCode := toS (planAt pl65) (keepAt kp65) (Tryd.f65.body.getD .skip)
theorem fn65 : FnIs Tryd.prog 65 90 [.tmp 2] s65 := FnIs.mk' (planAt pl65) (keepAt kp65) (by kernel_rfl)
def pl66 : List (Nat × Plan) := [(6, (.fl 0 (.fl 1 (.fl 2 (.fl 3 (.fl 4 (.fl 5 (.fl 6 (.fl 7 (.eff 8 [] (.fl 9 .done)))))))))))]
def kp66 : List (Nat × List Nat) := [(0, [0, 1]), (1, [0, 1]), (2, []), (3, [0, 1]), (4, [0, 1, 12, 13]), (5, [0, 1, 12, 13]), (6, [0, 1, 5, 12, 13]), (7, []), (8, [0, 1, 12, 13]), (9, [])]
noncomputable def s66 : SCode := toS (planAt pl66) (keepAt kp66) (Tryd.f66.body.getD .skip)
theorem fn66 : FnIs Tryd.prog 66 27 [.tmp 4] s66 := FnIs.mk' (planAt pl66) (keepAt kp66) (by kernel_rfl)
def pl67 : List (Nat × Plan) := [(6, (.fl 0 (.fl 1 (.fl 2 (.fl 3 (.fl 4 (.fl 5 (.fl 6 (.fl 7 (.eff 8 [] (.fl 9 .done)))))))))))]
def kp67 : List (Nat × List Nat) := [(0, [0, 1]), (1, [0, 1]), (2, []), (3, [0, 1]), (4, [0, 1, 12, 13]), (5, [0, 1, 12, 13]), (6, [0, 1, 5, 12, 13]), (7, []), (8, [0, 1, 12, 13]), (9, [])]
noncomputable def s67 : SCode := toS (planAt pl67) (keepAt kp67) (Tryd.f67.body.getD .skip)
theorem fn67 : FnIs Tryd.prog 67 27 [.tmp 4] s67 := FnIs.mk' (planAt pl67) (keepAt kp67) (by kernel_rfl)
def pl68 : List (Nat × Plan) := [(6, (.fl 0 (.fl 1 (.fl 2 (.fl 3 (.fl 4 (.fl 5 (.fl 6 (.fl 7 (.fl 8 (.fl 9 (.eff 10 [] (.fl 11 .done)))))))))))))]
def kp68 : List (Nat × List Nat) := [(0, [0, 1]), (1, [2, 3]), (2, []), (3, [2, 3]), (4, [2, 3, 53, 54]), (5, [2, 3, 53, 54]), (6, [2, 3, 5, 53, 54]), (7, []), (8, [2, 3, 53, 54]), (9, [])]
noncomputable def s68 : SCode := toS (planAt pl68) (keepAt kp68) (Tryd.f68.body.getD .skip)
theorem fn68 : FnIs Tryd.prog 68 70 [.tmp 4] s68 := FnIs.mk' (planAt pl68) (keepAt kp68) (by kernel_rfl)
def pl69 : List (Nat × Plan) := []
def kp69 : List (Nat × List Nat) := [(0, [0, 1]), (1, [0, 1]), (2, [0, 1, 7, 8]), (3, [0, 1, 7, 8]), (4, [0, 1, 5, 7, 8]), (5, [5]), (6, [0, 1, 7, 8]), (7, [])]
noncomputable def s69 : SCode := toS (planAt pl69) (keepAt kp69) (Tryd.f69.body.getD .skip)
theorem fn69 : FnIs Tryd.prog 69 19 [.tmp 4] s69 := FnIs.mk' (planAt pl69) (keepAt kp69) (by kernel_rfl)
def pl70 : List (Nat × Plan) := [(9, (.fl 0 (.fl 1 (.fl 4 (.fl 5 (.both (.eff 2 [5] (.both (.eff 3 [5] (.eff 6 [] (.eff 7 [] (.eff 8 [] (.eff 9 [] .done))))) (.eff 6 [] (.eff 3 [5] (.eff 7 [] (.eff 8 [] (.eff 9 [] .done))))))) (.eff 6 [] (.eff 2 [5] (.eff 3 [5] (.eff 7 [] (.eff 8 [] (.eff 9 [] .done))))))))))))]
def kp70 : List (Nat × List Nat) := [(0, [0]), (1, [0]), (2, [0, 5, 6]), (3, [0, 5, 6, 7]), (4, [0, 5, 6, 7, 8]), (5, [0, 5, 6, 7, 8]), (6, [0, 5, 6, 7, 8]), (7, [0, 5, 6, 7, 8, 10, 11]), (8, [5, 6]), (9, [0, 5, 6, 7, 8, 10]), (10, [0, 5, 6, 7, 8, 10]), (11, [0, 5, 6, 7, 8, 9]), (12, [0, 5, 6, 8, 9]), (13, [0, 5, 6, 7, 8]), (14, [0, 5, 6, 7, 8, 9]), (15, [0, 5, 6, 7, 8]), (16, [0, 5, 6, 7, 8, 9]), (17, [0, 5, 6, 8]), (18, [0, 5, 6, 7, 8]), (19, [5, 6])]
noncomputable def s70 : SCode := toS (planAt pl70) (keepAt kp70) (Tryd.f70.body.getD .skip)
theorem fn70 : FnIs Tryd.prog 70 74 [.tmp 2, .tmp 3, .tmp 4] s70 := FnIs.mk' (planAt pl70) (keepAt kp70) (by kernel_rfl)
def pl71 : List (Nat × Plan) := [(1, (.fl 0 (.eff 1 [] (.fl 2 (.fl 3 (.fl 4 (.fl 5 (.fl 6 (.fl 7 (.fl 8 (.fl 9 (.fl 10 (.fl 11 (.fl 12 (.fl 13 (.fl 14 (.fl 15 (.fl 16 (.fl 17 (.fl 18 (.fl 19 (.fl 20 (.fl 21 (.fl 22 (.fl 23 (.fl 24 (.fl 25 (.fl 26 (.fl 27 (.fl 28 (.fl 29 (.fl 30 (.fl 31 (.fl 32 (.fl 33 (.fl 34 (.fl 35 (.fl 36 (.fl 37 (.fl 38 (.fl 39 (.fl 40 (.fl 41 (.fl 42 (.fl 43 (.fl 44 (.fl 45 (.fl 46 .done))))))))))))))))))))))))))))))))))))))))))))))))]
def kp71 : List (Nat × List Nat) := [(0, [0, 1]), (1, [0, 1])]
noncomputable def s71 : SCode := toS (planAt pl71) (keepAt kp71) (Tryd.f71.body.getD .skip)
theorem fn71 : FnIs Tryd.prog 71 51 [.tmp 4] s71 := FnIs.mk' (planAt pl71) (keepAt kp71) (by kernel_rfl)
def pl72 : List (Nat × Plan) := []
def kp72 : List (Nat × List Nat) := [(0, [0]), (1, [0]), (2, [0, 5, 6, 7]), (3, [0, 5, 6, 7]), (4, [0, 4, 5, 6, 7]), (5, []), (6, [0, 5, 6, 7]), (7, [])]
noncomputable def s72 : SCode := toS (planAt pl72) (keepAt kp72) (Tryd.f72.body.getD .skip)
theorem fn72 : FnIs Tryd.prog 72 15 [.tmp 2] s72 := FnIs.mk' (planAt pl72) (keepAt kp72) (by kernel_rfl)
def pl73 : List (Nat × Plan) := []
def kp73 : List (Nat × List Nat) := [(0, [0, 1]), (1, [0])]
noncomputable def s73 : SCode := toS (planAt pl73) (keepAt kp73) (Tryd.f73.body.getD .skip)
theorem fn73 : FnIs Tryd.prog 73 13 [] s73 := FnIs.mk' (planAt pl73) (keepAt kp73) (by kernel_rfl)
def pl74 : List (Nat × Plan) := [(16, (.fl 0 (.fl 1 (.fl 2 (.fl 3 (.eff 4 [0] (.eff 5 [] (.fl 6 (.eff 7 [] .done))))))))), (24, (.fl 0 (.fl 1 (.fl 2 (.fl 3 (.eff 4 [0] (.eff 5 [] (.eff 6 [] .done))))))))]
def kp74 : List (Nat × List Nat) := [(0, [0, 1]), (1, [0, 1, 4]), (2, [0, 1, 4]), (3, [4]), (4, [0, 1, 4]), (5, [4]), (6, [0, 1, 4]), (7, [0, 1, 4]), (8, [0, 1, 4]), (9, [0, 1, 4]), (10, [0, 1, 4]), (11, [0, 1, 4]), (12, [0, 1, 4, 5]), (13, [0, 1, 4, 5, 6]), (14, [0, 1, 4, 5, 6]), (15, [0, 1, 4, 5, 6]), (16, [0, 1, 4, 5, 6]), (17, [4, 5]), (18, [0, 1, 4]), (19, [0, 1, 4]), (20, [0, 4, 7]), (21, [4, 7]), (22, [0, 1, 4]), (23, [0, 1, 4, 8]), (24, [0, 1, 4, 8]), (25, [0, 4, 8]), (26, [0, 4, 8]), (27, [4, 8])]
noncomputable def s74 : SCode := toS (planAt pl74) (keepAt kp74) (Tryd.f74.body.getD .skip)
theorem fn74 : FnIs Tryd.prog 74 86 [.cell 4 81] s74 := FnIs.mk' (planAt pl74) (keepAt kp74) (by kernel_rfl)
def pl75 : List (Nat × Plan) := [(1, (.fl 0 (.fl 1 (.fl 2 (.fl 3 (.eff 4 [1] (.eff 5 [1] (.fl 6 (.fl 7 .done)))))))))]
def kp75 : List (Nat × List Nat) := [(0, [0]), (1, [1])]
noncomputable def s75 : SCode := toS (planAt pl75) (keepAt kp75) (Tryd.f75.body.getD .skip)
theorem fn75 : FnIs Tryd.prog 75 10 [.tmp 2] s75 := FnIs.mk' (planAt pl75) (keepAt kp75) (by kernel_rfl)
def pl76 : List (Nat × Plan) := []
def kp76 : List (Nat × List Nat) := [(0, [0]), (1, [1]), (2, [1, 3]), (3, [1]), (4, [1, 3])]
noncomputable def s76 : SCode := toS (planAt pl76) (keepAt kp76) (Tryd.f76.body.getD .skip)
theorem fn76 : FnIs Tryd.prog 76 18 [.tmp 2] s76 := FnIs.mk' (planAt pl76) (keepAt kp76) (by kernel_rfl)
def pl77 : List (Nat × Plan) := []
def kp77 : List (Nat × List Nat) := [(0, [0, 1]), (1, [0, 3]), (2, [0, 3, 5]), (3, [3, 5, 6]), (4, [3]), (5, [3, 5, 6]), (6, [3, 5, 6]), (7, [3, 5, 6]), (8, [3]), (9, [3, 5]), (10, [3]), (11, [3])]
noncomputable def s77 : SCode := toS (planAt pl77) (keepAt kp77) (Tryd.f77.body.getD .skip)
theorem fn77 : FnIs Tryd.prog 77 31 [.tmp 4] s77 := FnIs.mk' (planAt pl77) (keepAt kp77) (by kernel_rfl)
def pl78 : List (Nat × Plan) := []
def kp78 : List (Nat × List Nat) := [(0, [0, 1]), (1, [2, 3])]
noncomputable def s78 : SCode := toS (planAt pl78) (keepAt kp78) (Tryd.f78.body.getD .skip)
theorem fn78 : FnIs Tryd.prog 78 24 [.tmp 4] s78 := FnIs.mk' (planAt pl78) (keepAt kp78) (by kernel_rfl)
def pl79 : List (Nat × Plan) := []
def kp79 : List (Nat × List Nat) := [(0, [0, 1]), (1, [2, 3])]
noncomputable def s79 : SCode := toS (planAt pl79) (keepAt kp79) (Tryd.f79.body.getD .skip)
theorem fn79 : FnIs Tryd.prog 79 31 [.tmp 4] s79 := FnIs.mk' (planAt pl79) (keepAt kp79) (by kernel_rfl)
def pl80 : List (Nat × Plan) := [(15, (.fl 0 (.fl 1 (.fl 2 (.fl 4 (.fl 6 (.fl 7 (.fl 8 (.fl 9 (.fl 10 (.fl 11 (.fl 12 (.fl 13 (.fl 14 (.fl 15 (.both (.eff 3 [10] (.both (.eff 5 [10] (.eff 16 [] (.fl 17 (.fl 18 (.fl 19 (.eff 20 [] (.fl 21 .done))))))) (.eff 16 [] (.fl 17 (.fl 18 (.fl 19 (.eff 5 [10] (.eff 20 [] (.fl 21 .done))))))))) (.eff 16 [] (.fl 17 (.fl 18 (.fl 19 (.eff 3 [10] (.eff 5 [10] (.eff 20 [] (.fl 21 .done))))))))))))))))))))))))]
def kp80 : List (Nat × List Nat) := [(0, [0, 1]), (1, [0, 1, 4]), (2, [0, 1, 4, 6]), (3, [0, 1, 4, 6, 7]), (4, [0, 1, 4, 6, 7]), (5, [0, 1, 4, 6, 7]), (6, [0, 1, 4, 6, 7]), (7, [0, 1, 4, 6, 7, 8]), (8, [0, 1, 4, 7]), (9, [0, 1, 4, 7, 8]), (10, [0, 1, 4, 6, 7]), (11, [0, 1, 4, 7]), (12, [0, 1, 4, 7]), (13, [0, 1, 4, 7]), (14, [0, 1, 4, 7]), (15, [0, 1, 4, 7, 9, 10]), (16, [0, 1, 4, 6]), (17, [4]), (18, [0, 1, 4, 6]), (19, [0, 1, 4, 6, 119, 120, 121]), (20, [0, 1, 4, 6, 119, 120, 121]), (21, [0, 1, 4, 6, 12, 119, 120, 121]), (22, [0, 1, 4]), (23, [0, 1, 4, 6, 119, 120, 121]), (24, [4])]
noncomputable def s80 : SCode := toS (planAt pl80) (keepAt kp80) (Tryd.f80.body.getD .skip)
theorem fn80 : FnIs Tryd.prog 80 136 [.cell 4 127, .tmp 5] s80 := FnIs.mk' (planAt pl80) (keepAt kp80) (by kernel_rfl)
def pl81 : List (Nat × Plan) := []
def kp81 : List (Nat × List Nat) := [(0, [0]), (1, [0]), (2, [0, 3]), (3, [0, 3, 4]), (4, [0, 3, 4, 5]), (5, [0, 3, 4, 5]), (6, [0, 3, 4, 5]), (7, [0, 3, 4]), (8, [0, 3, 4]), (9, [0, 3]), (10, [3]), (11, [3])]
noncomputable def s81 : SCode := toS (planAt pl81) (keepAt kp81) (Tryd.f81.body.getD .skip)
theorem fn81 : FnIs Tryd.prog 81 29 [.tmp 2] s81 := FnIs.mk' (planAt pl81) (keepAt kp81) (by kernel_rfl)
def pl82 : List (Nat × Plan) := []
def kp82 : List (Nat × List Nat) := [(0, [0]), (1, [0])]
noncomputable def s82 : SCode := toS (planAt pl82) (keepAt kp82) (Tryd.f82.body.getD .skip)
theorem fn82 : FnIs Tryd.prog 82 21 [.tmp 2] s82 := FnIs.mk' (planAt pl82) (keepAt kp82) (by kernel_rfl)
def pl83 : List (Nat × Plan) := []
def kp83 : List (Nat × List Nat) := [(0, [0]), (1, [0])]
noncomputable def s83 : SCode := toS (planAt pl83) (keepAt kp83) (Tryd.f83.body.getD .skip)
theorem fn83 : FnIs Tryd.prog 83 9 [.tmp 2] s83 := FnIs.mk' (planAt pl83) (keepAt kp83) (by kernel_rfl)
def pl84 : List (Nat × Plan) := []
def kp84 : List (Nat × List Nat) := [(0, [0]), (1, [0]), (2, [0, 4]), (3, [0, 4]), (4, [0, 4]), (5, []), (6, [0, 4]), (7, [0, 4, 5]), (8, [0, 4, 5, 6]), (9, [0, 4, 5, 6]), (10, [0, 4, 5, 6]), (11, [0, 4, 5, 6, 7]), (12, []), (13, [0, 4, 5, 6, 7]), (14, [0, 5]), (15, [5]), (16, [5]), (17, []), (18, [5])]
noncomputable def s84 : SCode := toS (planAt pl84) (keepAt kp84) (Tryd.f84.body.getD .skip)
theorem fn84 : FnIs Tryd.prog 84 77 [.tmp 2, .tmp 3] s84 := FnIs.mk' (planAt pl84) (keepAt kp84) (by kernel_rfl)

end Go.Aug
