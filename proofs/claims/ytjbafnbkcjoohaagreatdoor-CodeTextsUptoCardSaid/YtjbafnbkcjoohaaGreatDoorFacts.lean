/- The facts of the program's types and its functions in short form, by the kernel; no conditions. -/
import Derived.Test.YtjbafnbkcjoohaaGreatDoorRunOne
import Derived.Test.YtjbafnbkcjoohaaGreatDoorAugFive
import Derived.Test.YtjbafnbkcjoohaaGreatDoorProg
import Derived.KernelRfl
import Derived.Tactics
import Derived.Tactics2
import Derived.Defers
import Derived.Recover
import Derived.Laws.Pointers
set_option linter.all false
set_option linter.unusedVariables false
set_option linter.unusedSimpArgs false
set_option linter.unusedSectionVars false

/- The facts of the great seat's types and functions (round rx, seat ZD) that the reckoning asks for CodeTexts; by program (gz.sh, gen2.py). -/
namespace Go.Aug
open Go.Proofs
set_option maxRecDepth 100000

/-- The package variables: the errors of package api that these functions name; mm: blocks that stay (a table of the library's). -/
def seatZ (eb : Nat → Addr) (mm : Nat → Option Obj) : Env := ⟨312, 314, eb, fun g => if g < 4 || g == 5 then some (.sent g) else none, mm⟩

theorem mixed : Tryz.prog.follows .mixedOrders = true := by kernel_rfl
@[go_sem] theorem q_appOf_101 : appOf Tryz.prog 101 = (some (175, (3, 32))) := by kernel_rfl
@[go_sem] theorem q_appOf_115 : appOf Tryz.prog 115 = (some (5, (1, 1))) := by kernel_rfl
@[go_sem] theorem q_appOf_62 : appOf Tryz.prog 62 = (some (33, (20, 336))) := by kernel_rfl
@[go_sem] theorem q_arrOf_89 : arrOf Tryz.prog 89 = (some (18, (false, 1))) := by kernel_rfl
@[go_sem] theorem q_arrOf_90 : arrOf Tryz.prog 90 = (some (5, (false, 1))) := by kernel_rfl
@[go_sem] theorem q_arrOf_91 : arrOf Tryz.prog 91 = (some (3, (false, 1))) := by kernel_rfl
@[go_sem] theorem q_bldOf_103 : bldOf Tryz.prog 103 = (some ([.nils, (.d (.int .i64 (0 : Int)))], [(0, 1), (1, 1)])) := by kernel_rfl
@[go_sem] theorem q_bldOf_175 : bldOf Tryz.prog 175 = (some ([(.d (.int .i64 (0 : Int))), (.d (.str (ByteArray.mk (Array.mk [])))), (.d (.int .i64 (0 : Int)))], [(0, 1), (1, 1), (2, 1)])) := by kernel_rfl
@[go_sem] theorem q_bldOf_46 : bldOf Tryz.prog 46 = (some ([(.d (.int .i64 (0 : Int))), (.d (.int .i64 (0 : Int))), (.d (.int .i64 (0 : Int))), (.d (.int .i64 (0 : Int))), (.d (.int .i64 (0 : Int))), (.d (.int .i64 (0 : Int))), .nils, .nils, .nils], [(0, 1), (1, 1), (2, 1), (3, 1), (4, 1), (5, 1), (6, 1), (7, 1), (8, 1)])) := by kernel_rfl
@[go_sem] theorem q_bldOf_88 : bldOf Tryz.prog 88 = (some ([.nils, .nils], [(0, 1), (1, 1)])) := by kernel_rfl
@[go_sem] theorem q_bldOf_89 : bldOf Tryz.prog 89 = (some ([(.d (.str (ByteArray.mk (Array.mk [])))), (.d (.str (ByteArray.mk (Array.mk [])))), (.d (.str (ByteArray.mk (Array.mk [])))), (.d (.str (ByteArray.mk (Array.mk [])))), (.d (.str (ByteArray.mk (Array.mk [])))), (.d (.str (ByteArray.mk (Array.mk [])))), (.d (.str (ByteArray.mk (Array.mk [])))), (.d (.str (ByteArray.mk (Array.mk [])))), (.d (.str (ByteArray.mk (Array.mk [])))), (.d (.str (ByteArray.mk (Array.mk [])))), (.d (.str (ByteArray.mk (Array.mk [])))), (.d (.str (ByteArray.mk (Array.mk [])))), (.d (.str (ByteArray.mk (Array.mk [])))), (.d (.str (ByteArray.mk (Array.mk [])))), (.d (.str (ByteArray.mk (Array.mk [])))), (.d (.str (ByteArray.mk (Array.mk [])))), (.d (.str (ByteArray.mk (Array.mk [])))), (.d (.str (ByteArray.mk (Array.mk []))))], [(0, 1), (1, 1), (2, 1), (3, 1), (4, 1), (5, 1), (6, 1), (7, 1), (8, 1), (9, 1), (10, 1), (11, 1), (12, 1), (13, 1), (14, 1), (15, 1), (16, 1), (17, 1)])) := by kernel_rfl
@[go_sem] theorem q_bldOf_90 : bldOf Tryz.prog 90 = (some ([(.d (.int .i64 (0 : Int))), (.d (.int .i64 (0 : Int))), (.d (.int .i64 (0 : Int))), (.d (.int .i64 (0 : Int))), (.d (.int .i64 (0 : Int)))], [(0, 1), (1, 1), (2, 1), (3, 1), (4, 1)])) := by kernel_rfl
@[go_sem] theorem q_bldOf_91 : bldOf Tryz.prog 91 = (some ([.nils, .nils, .nils], [(0, 1), (1, 1), (2, 1)])) := by kernel_rfl
@[go_sem] theorem q_bsOf_101 : bsOf Tryz.prog 101 = (some (175, (3, false))) := by kernel_rfl
@[go_sem] theorem q_bsOf_115 : bsOf Tryz.prog 115 = (some (5, (1, true))) := by kernel_rfl
@[go_sem] theorem q_bsOf_22 : bsOf Tryz.prog 22 = (some (9, (1, false))) := by kernel_rfl
@[go_sem] theorem q_bsOf_44 : bsOf Tryz.prog 44 = (some (3, (1, false))) := by kernel_rfl
@[go_sem] theorem q_bsOf_53 : bsOf Tryz.prog 53 = (some (44, (1, false))) := by kernel_rfl
@[go_sem] theorem q_bsOf_62 : bsOf Tryz.prog 62 = (some (33, (20, false))) := by kernel_rfl
@[go_sem] theorem q_bsOf_83 : bsOf Tryz.prog 83 = (some (5, (1, true))) := by kernel_rfl
@[go_sem] theorem q_callable_112 : callable Tryz.prog 112 = true := by kernel_rfl
@[go_sem] theorem q_callable_131 : callable Tryz.prog 131 = true := by kernel_rfl
@[go_sem] theorem q_callable_15 : callable Tryz.prog 15 = true := by kernel_rfl
@[go_sem] theorem q_callable_156 : callable Tryz.prog 156 = true := by kernel_rfl
@[go_sem] theorem q_callable_157 : callable Tryz.prog 157 = true := by kernel_rfl
@[go_sem] theorem q_callable_16 : callable Tryz.prog 16 = true := by kernel_rfl
@[go_sem] theorem q_callable_17 : callable Tryz.prog 17 = true := by kernel_rfl
@[go_sem] theorem q_callable_192 : callable Tryz.prog 192 = true := by kernel_rfl
@[go_sem] theorem q_callable_193 : callable Tryz.prog 193 = true := by kernel_rfl
@[go_sem] theorem q_callable_194 : callable Tryz.prog 194 = true := by kernel_rfl
@[go_sem] theorem q_callable_195 : callable Tryz.prog 195 = true := by kernel_rfl
@[go_sem] theorem q_callable_197 : callable Tryz.prog 197 = true := by kernel_rfl
@[go_sem] theorem q_callable_198 : callable Tryz.prog 198 = true := by kernel_rfl
@[go_sem] theorem q_callable_199 : callable Tryz.prog 199 = true := by kernel_rfl
@[go_sem] theorem q_callable_21 : callable Tryz.prog 21 = true := by kernel_rfl
@[go_sem] theorem q_callable_219 : callable Tryz.prog 219 = true := by kernel_rfl
@[go_sem] theorem q_callable_22 : callable Tryz.prog 22 = true := by kernel_rfl
@[go_sem] theorem q_callable_38 : callable Tryz.prog 38 = true := by kernel_rfl
@[go_sem] theorem q_callable_39 : callable Tryz.prog 39 = true := by kernel_rfl
@[go_sem] theorem q_callable_40 : callable Tryz.prog 40 = true := by kernel_rfl
@[go_sem] theorem q_callable_41 : callable Tryz.prog 41 = true := by kernel_rfl
@[go_sem] theorem q_callable_47 : callable Tryz.prog 47 = true := by kernel_rfl
@[go_sem] theorem q_callable_49 : callable Tryz.prog 49 = true := by kernel_rfl
@[go_sem] theorem q_callable_50 : callable Tryz.prog 50 = true := by kernel_rfl
@[go_sem] theorem q_callable_51 : callable Tryz.prog 51 = true := by kernel_rfl
@[go_sem] theorem q_callable_52 : callable Tryz.prog 52 = true := by kernel_rfl
@[go_sem] theorem q_callable_53 : callable Tryz.prog 53 = true := by kernel_rfl
@[go_sem] theorem q_callable_56 : callable Tryz.prog 56 = true := by kernel_rfl
@[go_sem] theorem q_callable_57 : callable Tryz.prog 57 = true := by kernel_rfl
@[go_sem] theorem q_callable_58 : callable Tryz.prog 58 = true := by kernel_rfl
@[go_sem] theorem q_callable_59 : callable Tryz.prog 59 = true := by kernel_rfl
@[go_sem] theorem q_callable_62 : callable Tryz.prog 62 = true := by kernel_rfl
@[go_sem] theorem q_callable_68 : callable Tryz.prog 68 = true := by kernel_rfl
@[go_sem] theorem q_callable_7 : callable Tryz.prog 7 = true := by kernel_rfl
@[go_sem] theorem q_callable_87 : callable Tryz.prog 87 = true := by kernel_rfl
@[go_sem] theorem q_callable_95 : callable Tryz.prog 95 = true := by kernel_rfl
@[go_sem] theorem q_convOf_152_5 : convOf Tryz.prog 152 5 = (some (Conv.int .u8)) := by kernel_rfl
@[go_sem] theorem q_convOf_3_152 : convOf Tryz.prog 3 152 = (some (Conv.int .u64)) := by kernel_rfl
@[go_sem] theorem q_convOf_3_5 : convOf Tryz.prog 3 5 = (some (Conv.int .u8)) := by kernel_rfl
@[go_sem] theorem q_convOf_83_9 : convOf Tryz.prog 83 9 = (some Conv.toStr) := by kernel_rfl
@[go_sem] theorem q_errTy_V_55 {eb : Nat → Addr} {mm : Nat → Option Obj} : errTy Tryz.prog (seatZ eb mm) 55 = true := by kernel_rfl
@[go_sem] theorem q_fieldOff_103_0 : fieldOff Tryz.prog 103 0 = (some 0) := by kernel_rfl
@[go_sem] theorem q_fieldOff_103_1 : fieldOff Tryz.prog 103 1 = (some 1) := by kernel_rfl
@[go_sem] theorem q_fieldOff_110_1 : fieldOff Tryz.prog 110 1 = (some 1) := by kernel_rfl
@[go_sem] theorem q_fieldOff_175_1 : fieldOff Tryz.prog 175 1 = (some 1) := by kernel_rfl
@[go_sem] theorem q_fieldOff_33_0 : fieldOff Tryz.prog 33 0 = (some 0) := by kernel_rfl
@[go_sem] theorem q_fieldOff_46_0 : fieldOff Tryz.prog 46 0 = (some 0) := by kernel_rfl
@[go_sem] theorem q_fieldOff_46_1 : fieldOff Tryz.prog 46 1 = (some 1) := by kernel_rfl
@[go_sem] theorem q_fieldOff_46_2 : fieldOff Tryz.prog 46 2 = (some 2) := by kernel_rfl
@[go_sem] theorem q_fieldOff_46_3 : fieldOff Tryz.prog 46 3 = (some 3) := by kernel_rfl
@[go_sem] theorem q_fieldOff_46_4 : fieldOff Tryz.prog 46 4 = (some 4) := by kernel_rfl
@[go_sem] theorem q_fieldOff_46_5 : fieldOff Tryz.prog 46 5 = (some 5) := by kernel_rfl
@[go_sem] theorem q_fieldOff_46_6 : fieldOff Tryz.prog 46 6 = (some 6) := by kernel_rfl
@[go_sem] theorem q_fieldOff_46_7 : fieldOff Tryz.prog 46 7 = (some 7) := by kernel_rfl
@[go_sem] theorem q_fieldOff_46_8 : fieldOff Tryz.prog 46 8 = (some 8) := by kernel_rfl
@[go_sem] theorem q_fieldOff_88_0 : fieldOff Tryz.prog 88 0 = (some 0) := by kernel_rfl
@[go_sem] theorem q_fieldOff_88_1 : fieldOff Tryz.prog 88 1 = (some 1) := by kernel_rfl
@[go_sem] theorem q_idxOf_22 : idxOf Tryz.prog 22 = (some 1) := by kernel_rfl
@[go_sem] theorem q_idxOf_44 : idxOf Tryz.prog 44 = (some 1) := by kernel_rfl
@[go_sem] theorem q_idxOf_53 : idxOf Tryz.prog 53 = (some 1) := by kernel_rfl
@[go_sem] theorem q_idxOf_62 : idxOf Tryz.prog 62 = (some 20) := by kernel_rfl
@[go_sem] theorem q_idxOf_86 : idxOf Tryz.prog 86 = (some 6) := by kernel_rfl
@[go_sem] theorem q_isIface_55 : isIface Tryz.prog 55 = true := by kernel_rfl
@[go_sem] theorem q_isSliceT_101 : isSliceT Tryz.prog 101 = true := by kernel_rfl
@[go_sem] theorem q_isSliceT_115 : isSliceT Tryz.prog 115 = true := by kernel_rfl
@[go_sem] theorem q_isSliceT_44 : isSliceT Tryz.prog 44 = true := by kernel_rfl
@[go_sem] theorem q_isSliceT_53 : isSliceT Tryz.prog 53 = true := by kernel_rfl
@[go_sem] theorem q_isSliceT_62 : isSliceT Tryz.prog 62 = true := by kernel_rfl
@[go_sem] theorem q_isSliceT_83 : isSliceT Tryz.prog 83 = true := by kernel_rfl
@[go_sem] theorem q_isSliceT_86 : isSliceT Tryz.prog 86 = true := by kernel_rfl
@[go_sem] theorem q_isStrT_9 : isStrT Tryz.prog 9 = true := by kernel_rfl
@[go_sem] theorem q_keyK_3 : keyK Tryz.prog 3 = (some (.one (.int .i64))) := by kernel_rfl
@[go_sem] theorem q_keyK_5 : keyK Tryz.prog 5 = (some (.one (.int .u8))) := by kernel_rfl
@[go_sem] theorem q_keyK_9 : keyK Tryz.prog 9 = (some (.one .str)) := by kernel_rfl
@[go_sem] theorem q_mkOf_22 : mkOf Tryz.prog 22 = (some (9, (1, (16, (.str (ByteArray.mk (Array.mk []))))))) := by kernel_rfl
@[go_sem] theorem q_sameSl_115_115 : sameSl Tryz.prog 115 115 = true := by kernel_rfl
@[go_sem] theorem q_sameSl_152_5 : sameSl Tryz.prog 152 5 = false := by kernel_rfl
@[go_sem] theorem q_sameSl_3_152 : sameSl Tryz.prog 3 152 = false := by kernel_rfl
@[go_sem] theorem q_sameSl_3_5 : sameSl Tryz.prog 3 5 = false := by kernel_rfl
@[go_sem] theorem q_sameSl_83_9 : sameSl Tryz.prog 83 9 = false := by kernel_rfl
@[go_sem] theorem q_sliceOf_9 : sliceOf Tryz.prog 9 = (some none) := by kernel_rfl
@[go_sem] theorem q_tshape_101 : tshape Tryz.prog 101 = (some (false, 1)) := by kernel_rfl
@[go_sem] theorem q_tshape_115 : tshape Tryz.prog 115 = (some (false, 1)) := by kernel_rfl
@[go_sem] theorem q_tshape_175 : tshape Tryz.prog 175 = (some (true, 3)) := by kernel_rfl
@[go_sem] theorem q_tshape_3 : tshape Tryz.prog 3 = (some (false, 1)) := by kernel_rfl
@[go_sem] theorem q_tshape_33 : tshape Tryz.prog 33 = (some (true, 20)) := by kernel_rfl
@[go_sem] theorem q_tshape_44 : tshape Tryz.prog 44 = (some (false, 1)) := by kernel_rfl
@[go_sem] theorem q_tshape_46 : tshape Tryz.prog 46 = (some (true, 9)) := by kernel_rfl
@[go_sem] theorem q_tshape_52 : tshape Tryz.prog 52 = (some (true, 6)) := by kernel_rfl
@[go_sem] theorem q_tshape_55 : tshape Tryz.prog 55 = (some (false, 1)) := by kernel_rfl
@[go_sem] theorem q_tshape_62 : tshape Tryz.prog 62 = (some (false, 1)) := by kernel_rfl
@[go_sem] theorem q_tshape_83 : tshape Tryz.prog 83 = (some (false, 1)) := by kernel_rfl
@[go_sem] theorem q_tshape_86 : tshape Tryz.prog 86 = (some (false, 1)) := by kernel_rfl
@[go_sem] theorem q_tshape_88 : tshape Tryz.prog 88 = (some (true, 2)) := by kernel_rfl
@[go_sem] theorem q_tshape_89 : tshape Tryz.prog 89 = (some (true, 18)) := by kernel_rfl
@[go_sem] theorem q_tshape_9 : tshape Tryz.prog 9 = (some (false, 1)) := by kernel_rfl
@[go_sem] theorem q_zeroOf_101 : zeroOf Tryz.prog 101 = (some [.nils]) := by kernel_rfl
@[go_sem] theorem q_zeroOf_110 : zeroOf Tryz.prog 110 = (some [(.d (.raw (.pointer none))), .nils]) := by kernel_rfl
@[go_sem] theorem q_zeroOf_115 : zeroOf Tryz.prog 115 = (some [.nils]) := by kernel_rfl
@[go_sem] theorem q_zeroOf_175 : zeroOf Tryz.prog 175 = (some [(.d (.int .i64 (0 : Int))), (.d (.str (ByteArray.mk (Array.mk [])))), (.d (.int .i64 (0 : Int)))]) := by kernel_rfl
@[go_sem] theorem q_zeroOf_33 : zeroOf Tryz.prog 33 = (some [(.d (.int .i64 (0 : Int))), (.d (.str (ByteArray.mk (Array.mk [])))), .nils, .nils, .nils, .nils, (.d (.int .i64 (0 : Int))), .nils, (.d (.int .i64 (0 : Int))), (.d (.int .i64 (0 : Int))), (.d (.str (ByteArray.mk (Array.mk [])))), (.d (.int .i64 (0 : Int))), .nils, (.d (.int .i64 (0 : Int))), (.d (.str (ByteArray.mk (Array.mk [])))), (.d (.int .i64 (0 : Int))), .nils, (.d (.str (ByteArray.mk (Array.mk [])))), .nils, .nils]) := by kernel_rfl
@[go_sem] theorem q_zeroOf_52 : zeroOf Tryz.prog 52 = (some [(.d (.str (ByteArray.mk (Array.mk [])))), .nils, .nils, (.d (.int .i64 (0 : Int))), .nils, .nils]) := by kernel_rfl
@[go_sem] theorem q_zeroOf_55 : zeroOf Tryz.prog 55 = (some [(.d (.raw .nilIface))]) := by kernel_rfl
@[go_sem] theorem q_zeroOf_62 : zeroOf Tryz.prog 62 = (some [.nils]) := by kernel_rfl
@[go_sem] theorem q_zeroOf_89 : zeroOf Tryz.prog 89 = (some [(.d (.str (ByteArray.mk (Array.mk [])))), (.d (.str (ByteArray.mk (Array.mk [])))), (.d (.str (ByteArray.mk (Array.mk [])))), (.d (.str (ByteArray.mk (Array.mk [])))), (.d (.str (ByteArray.mk (Array.mk [])))), (.d (.str (ByteArray.mk (Array.mk [])))), (.d (.str (ByteArray.mk (Array.mk [])))), (.d (.str (ByteArray.mk (Array.mk [])))), (.d (.str (ByteArray.mk (Array.mk [])))), (.d (.str (ByteArray.mk (Array.mk [])))), (.d (.str (ByteArray.mk (Array.mk [])))), (.d (.str (ByteArray.mk (Array.mk [])))), (.d (.str (ByteArray.mk (Array.mk [])))), (.d (.str (ByteArray.mk (Array.mk [])))), (.d (.str (ByteArray.mk (Array.mk [])))), (.d (.str (ByteArray.mk (Array.mk [])))), (.d (.str (ByteArray.mk (Array.mk [])))), (.d (.str (ByteArray.mk (Array.mk []))))]) := by kernel_rfl

def pl4 : List (Nat × Plan) := [(3, (.fl 0 (.fl 2 (.eff 1 [2] (.eff 3 [] (.fl 4 (.fl 5 .done)))))))]
def kp4 : List (Nat × List Nat) := [(0, [0]), (1, [1]), (2, []), (3, [1])]
noncomputable def s4 : SCode := toS (planAt pl4) (keepAt kp4) (Tryz.f4.body.getD .skip)
theorem fn4 : FnIs Tryz.prog 4 10 [.tmp 2] s4 := FnIs.mk' (planAt pl4) (keepAt kp4) (by kernel_rfl)
def pl15 : List (Nat × Plan) := []
def kp15 : List (Nat × List Nat) := [(0, []), (1, []), (2, [1, 2])]
noncomputable def s15 : SCode := toS (planAt pl15) (keepAt kp15) (Tryz.f15.body.getD .skip)
theorem fn15 : FnIs Tryz.prog 15 20 [.tmp 0] s15 := FnIs.mk' (planAt pl15) (keepAt kp15) (by kernel_rfl)
def pl16 : List (Nat × Plan) := []
def kp16 : List (Nat × List Nat) := [(0, [0]), (1, [1]), (2, [1, 3]), (3, [1, 3, 4]), (4, [1, 3]), (5, [1, 4]), (6, [1, 4, 37, 38]), (7, [1, 4, 37, 38]), (8, [1, 4, 6, 37, 38]), (9, [1, 4, 37, 38]), (10, [1, 4]), (11, [4, 53, 54]), (12, [4, 53, 54]), (13, [4, 8, 53, 54]), (14, [4, 8, 9, 53, 54]), (15, [4, 9, 53, 54, 60, 61, 62]), (16, [4, 9, 53, 54, 60, 61, 62]), (17, [4, 9, 10, 11, 53, 54, 60, 61, 62]), (18, [4, 9, 53, 54, 60, 61, 62]), (19, [4, 9, 53, 54]), (20, [4, 53, 54]), (21, [4])]
noncomputable def s16 : SCode := toS (planAt pl16) (keepAt kp16) (Tryz.f16.body.getD .skip)
theorem fn16 : FnIs Tryz.prog 16 81 [.tmp 2] s16 := FnIs.mk' (planAt pl16) (keepAt kp16) (by kernel_rfl)
def pl17 : List (Nat × Plan) := []
def kp17 : List (Nat × List Nat) := [(0, [0]), (1, [1]), (2, [1, 3]), (3, [1, 3, 4]), (4, [1, 3]), (5, [1, 4]), (6, [1, 4, 36, 37, 38]), (7, [1, 4, 36, 37, 38]), (8, [1, 4, 6, 36, 37, 38]), (9, [1, 4, 36, 37, 38]), (10, [1, 4]), (11, [4, 54, 55, 56]), (12, [4, 54, 55, 56]), (13, [4, 8, 54, 55, 56]), (14, [4, 8, 54, 55, 56]), (15, [4, 54, 55, 56, 62, 63, 64]), (16, [4, 54, 55, 56, 62, 63, 64]), (17, [4, 9, 10, 54, 55, 56, 62, 63, 64]), (18, [4, 10, 54, 55, 56, 62, 63, 64]), (19, [4, 10, 54, 55, 56, 62, 63, 64]), (20, [4, 54, 55, 56, 62, 63, 64]), (21, [4, 54, 55, 56]), (22, [4, 54, 55, 56]), (23, [4])]
noncomputable def s17 : SCode := toS (planAt pl17) (keepAt kp17) (Tryz.f17.body.getD .skip)
theorem fn17 : FnIs Tryz.prog 17 82 [.tmp 2] s17 := FnIs.mk' (planAt pl17) (keepAt kp17) (by kernel_rfl)
def pl21 : List (Nat × Plan) := []
def kp21 : List (Nat × List Nat) := [(0, [0]), (1, [0])]
noncomputable def s21 : SCode := toS (planAt pl21) (keepAt kp21) (Tryz.f21.body.getD .skip)
theorem fn21 : FnIs Tryz.prog 21 8 [.tmp 2, .tmp 3] s21 := FnIs.mk' (planAt pl21) (keepAt kp21) (by kernel_rfl)
def pl22 : List (Nat × Plan) := []
def kp22 : List (Nat × List Nat) := [(0, [0]), (1, [0]), (2, [0, 3]), (3, [3, 6, 7, 8]), (4, [3, 6, 7, 8]), (5, [3, 5, 6, 7, 8]), (6, [3, 6, 7, 8]), (7, [3])]
noncomputable def s22 : SCode := toS (planAt pl22) (keepAt kp22) (Tryz.f22.body.getD .skip)
theorem fn22 : FnIs Tryz.prog 22 17 [.tmp 2] s22 := FnIs.mk' (planAt pl22) (keepAt kp22) (by kernel_rfl)
def pl39 : List (Nat × Plan) := []
def kp39 : List (Nat × List Nat) := [(0, [0]), (1, [0]), (2, [0, 3]), (3, [0, 3, 4]), (4, [0, 3, 4, 5]), (5, [0, 3, 4, 5]), (6, [0, 3, 4, 5]), (7, [0, 3, 4]), (8, [0, 3, 4]), (9, [0, 3]), (10, [3]), (11, [3])]
noncomputable def s39 : SCode := toS (planAt pl39) (keepAt kp39) (Tryz.f39.body.getD .skip)
theorem fn39 : FnIs Tryz.prog 39 29 [.tmp 2] s39 := FnIs.mk' (planAt pl39) (keepAt kp39) (by kernel_rfl)
def pl40 : List (Nat × Plan) := [(13, (.fl 0 (.fl 1 (.fl 2 .done))))]
def kp40 : List (Nat × List Nat) := [(0, [0]), (1, [1]), (2, [1, 4]), (3, [4]), (4, [1]), (5, [1, 5]), (6, [1, 5]), (7, [1, 5]), (8, [5, 24, 25, 26]), (9, [5, 24, 25, 26]), (10, [5, 7, 24, 25, 26]), (11, [5, 24, 25, 26]), (12, [5]), (13, []), (14, [5])]
noncomputable def s40 : SCode := toS (planAt pl40) (keepAt kp40) (Tryz.f40.body.getD .skip)
theorem fn40 : FnIs Tryz.prog 40 38 [.tmp 2, .tmp 3] s40 := FnIs.mk' (planAt pl40) (keepAt kp40) (by kernel_rfl)
def pl47 : List (Nat × Plan) := [(3, (.fl 0 (.fl 1 (.eff 2 [1] (.eff 3 [] .done)))))]
def kp47 : List (Nat × List Nat) := [(0, [0, 1]), (1, [0, 1, 4, 5]), (2, [1, 4, 5, 6]), (3, [4, 5]), (4, [1, 4, 5, 6]), (5, [1, 4, 5, 6]), (6, [1, 4, 5, 6, 7]), (7, [4, 5, 6, 7]), (8, [4, 5, 7]), (9, [4, 5])]
noncomputable def s47 : SCode := toS (planAt pl47) (keepAt kp47) (Tryz.f47.body.getD .skip)
theorem fn47 : FnIs Tryz.prog 47 35 [.cell 4 62, .cell 5 55] s47 := FnIs.mk' (planAt pl47) (keepAt kp47) (by kernel_rfl)
def pl48 : List (Nat × Plan) := [(2, (.fl 0 (.fl 1 (.fl 2 (.fl 3 (.fl 4 (.fl 5 (.fl 6 (.fl 7 (.fl 8 (.fl 9 .done)))))))))))]
def kp48 : List (Nat × List Nat) := [(0, [0]), (1, [0]), (2, [0, 3]), (3, [0, 3]), (4, [0, 3]), (5, [0, 3]), (6, [0, 3]), (7, [3])]
noncomputable def s48 : SCode := toS (planAt pl48) (keepAt kp48) (Tryz.f48.body.getD .skip)
theorem fn48 : FnIs Tryz.prog 48 28 [.tmp 2] s48 := FnIs.mk' (planAt pl48) (keepAt kp48) (by kernel_rfl)
def pl53 : List (Nat × Plan) := [(1, (.fl 0 (.fl 1 (.fl 2 (.fl 3 (.fl 5 (.fl 6 (.fl 7 (.fl 8 (.fl 9 (.eff 4 [8, 9] (.eff 10 [] (.fl 11 .done)))))))))))))]
def kp53 : List (Nat × List Nat) := [(0, [0]), (1, [0])]
noncomputable def s53 : SCode := toS (planAt pl53) (keepAt kp53) (Tryz.f53.body.getD .skip)
theorem fn53 : FnIs Tryz.prog 53 14 [.tmp 2] s53 := FnIs.mk' (planAt pl53) (keepAt kp53) (by kernel_rfl)
def pl56 : List (Nat × Plan) := []
def kp56 : List (Nat × List Nat) := [(0, [0]), (1, [1]), (2, []), (3, [])]
noncomputable def s56 : SCode := toS (planAt pl56) (keepAt kp56) (Tryz.f56.body.getD .skip)
theorem fn56 : FnIs Tryz.prog 56 19 [.tmp 2] s56 := FnIs.mk' (planAt pl56) (keepAt kp56) (by kernel_rfl)
def pl57 : List (Nat × Plan) := []
def kp57 : List (Nat × List Nat) := [(0, [0, 1]), (1, [0, 1])]
noncomputable def s57 : SCode := toS (planAt pl57) (keepAt kp57) (Tryz.f57.body.getD .skip)
theorem fn57 : FnIs Tryz.prog 57 15 [] s57 := FnIs.mk' (planAt pl57) (keepAt kp57) (by kernel_rfl)
def pl58 : List (Nat × Plan) := []
def kp58 : List (Nat × List Nat) := [(0, [0, 1]), (1, [0, 4]), (2, [0, 4]), (3, [0, 4]), (4, [0, 4])]
noncomputable def s58 : SCode := toS (planAt pl58) (keepAt kp58) (Tryz.f58.body.getD .skip)
theorem fn58 : FnIs Tryz.prog 58 35 [] s58 := FnIs.mk' (planAt pl58) (keepAt kp58) (by kernel_rfl)
def pl62 : List (Nat × Plan) := []
def kp62 : List (Nat × List Nat) := [(0, [0, 1]), (1, [0, 1])]
noncomputable def s62 : SCode := toS (planAt pl62) (keepAt kp62) (Tryz.f62.body.getD .skip)
theorem fn62 : FnIs Tryz.prog 62 9 [.tmp 4] s62 := FnIs.mk' (planAt pl62) (keepAt kp62) (by kernel_rfl)
def pl68 : List (Nat × Plan) := [(2, (.fl 0 (.fl 1 (.fl 2 .done)))), (6, (.fl 0 (.fl 1 (.fl 2 .done))))]
def kp68 : List (Nat × List Nat) := [(0, [0]), (1, [0]), (2, []), (3, [0]), (4, [0, 4]), (5, [4, 5]), (6, []), (7, [4])]
noncomputable def s68 : SCode := toS (planAt pl68) (keepAt kp68) (Tryz.f68.body.getD .skip)
theorem fn68 : FnIs Tryz.prog 68 17 [.tmp 2, .tmp 3] s68 := FnIs.mk' (planAt pl68) (keepAt kp68) (by kernel_rfl)
def pl87 : List (Nat × Plan) := [(7, (.fl 0 (.fl 1 (.fl 2 (.fl 3 (.fl 4 (.fl 5 (.fl 6 (.fl 7 (.fl 8 (.eff 9 [] (.fl 10 (.fl 11 .done)))))))))))))]
def kp87 : List (Nat × List Nat) := [(0, [0]), (1, [0]), (2, [0, 3, 4]), (3, []), (4, [0, 3]), (5, [3, 22, 23, 24]), (6, [3, 22, 23, 24]), (7, [3, 5, 6, 22, 23, 24]), (8, []), (9, [3, 22, 23, 24]), (10, [])]
noncomputable def s87 : SCode := toS (planAt pl87) (keepAt kp87) (Tryz.f87.body.getD .skip)
theorem fn87 : FnIs Tryz.prog 87 42 [.tmp 2] s87 := FnIs.mk' (planAt pl87) (keepAt kp87) (by kernel_rfl)
def pl95 : List (Nat × Plan) := []
def kp95 : List (Nat × List Nat) := [(0, [0, 1]), (1, [0, 1]), (2, [0, 1, 7, 8]), (3, [0, 1, 7, 8]), (4, [0, 1, 5, 7, 8]), (5, [5]), (6, [0, 1, 7, 8]), (7, [])]
noncomputable def s95 : SCode := toS (planAt pl95) (keepAt kp95) (Tryz.f95.body.getD .skip)
theorem fn95 : FnIs Tryz.prog 95 19 [.tmp 4] s95 := FnIs.mk' (planAt pl95) (keepAt kp95) (by kernel_rfl)
def pl112 : List (Nat × Plan) := []
def kp112 : List (Nat × List Nat) := [(0, [0, 1]), (1, [0, 1]), (2, [0, 1, 5]), (3, [0, 1, 5]), (4, [0, 1, 5, 6, 7]), (5, []), (6, [0, 1, 5, 6]), (7, [])]
noncomputable def s112 : SCode := toS (planAt pl112) (keepAt kp112) (Tryz.f112.body.getD .skip)
theorem fn112 : FnIs Tryz.prog 112 36 [.tmp 4] s112 := FnIs.mk' (planAt pl112) (keepAt kp112) (by kernel_rfl)
def pl113 : List (Nat × Plan) := []
def kp113 : List (Nat × List Nat) := [(0, [1, 2]), (1, [2, 4]), (2, [])]
noncomputable def s113 : SCode := toS (planAt pl113) (keepAt kp113) (Tryz.f113.body.getD .skip)
theorem fn113 : FnIs Tryz.prog 113 10 [.tmp 5] s113 := FnIs.mk' (planAt pl113) (keepAt kp113) (by kernel_rfl)
def pl156 : List (Nat × Plan) := []
def kp156 : List (Nat × List Nat) := [(0, [0, 1]), (1, [0, 1]), (2, [0, 1]), (3, [0, 1, 12]), (4, [0, 1, 12]), (5, [0, 1, 12]), (6, [0, 1, 12]), (7, [0, 1]), (8, [0, 1, 12]), (9, [0, 1]), (10, [0, 1, 5]), (11, [0]), (12, [0, 1, 5]), (13, [1]), (14, [1])]
noncomputable def s156 : SCode := toS (planAt pl156) (keepAt kp156) (Tryz.f156.body.getD .skip)
theorem fn156 : FnIs Tryz.prog 156 35 [.tmp 4] s156 := FnIs.mk' (planAt pl156) (keepAt kp156) (by kernel_rfl)
def pl157 : List (Nat × Plan) := []
def kp157 : List (Nat × List Nat) := [(0, [0, 1]), (1, [0, 1, 4]), (2, [0, 1, 4, 6]), (3, [0, 1, 4, 6]), (4, [0, 1, 4, 6]), (5, [4, 6, 7]), (6, [4, 6, 7, 8]), (7, [4, 7]), (8, [4, 7, 8]), (9, [0, 1, 4, 6]), (10, [0, 1, 4, 6]), (11, [0, 1, 4]), (12, [0, 1, 4, 6]), (13, [4]), (14, [0, 1, 4, 6]), (15, [0, 1, 4]), (16, [4])]
noncomputable def s157 : SCode := toS (planAt pl157) (keepAt kp157) (Tryz.f157.body.getD .skip)
theorem fn157 : FnIs Tryz.prog 157 60 [.cell 4 175, .tmp 5] s157 := FnIs.mk' (planAt pl157) (keepAt kp157) (by kernel_rfl)
def pl193 : List (Nat × Plan) := []
def kp193 : List (Nat × List Nat) := [(0, [0]), (1, [0])]
noncomputable def s193 : SCode := toS (planAt pl193) (keepAt kp193) (Tryz.f193.body.getD .skip)
theorem fn193 : FnIs Tryz.prog 193 9 [.tmp 2] s193 := FnIs.mk' (planAt pl193) (keepAt kp193) (by kernel_rfl)
def pl194 : List (Nat × Plan) := []
def kp194 : List (Nat × List Nat) := [(0, [0]), (1, [0])]
noncomputable def s194 : SCode := toS (planAt pl194) (keepAt kp194) (Tryz.f194.body.getD .skip)
theorem fn194 : FnIs Tryz.prog 194 13 [.tmp 2] s194 := FnIs.mk' (planAt pl194) (keepAt kp194) (by kernel_rfl)
def pl195 : List (Nat × Plan) := []
def kp195 : List (Nat × List Nat) := [(0, [0, 1, 2]), (1, [0, 1, 2]), (2, [0, 1, 2, 7]), (3, [0, 1, 2, 7]), (4, [1, 7])]
noncomputable def s195 : SCode := toS (planAt pl195) (keepAt kp195) (Tryz.f195.body.getD .skip)
theorem fn195 : FnIs Tryz.prog 195 25 [.tmp 6] s195 := FnIs.mk' (planAt pl195) (keepAt kp195) (by kernel_rfl)
def pl196 : List (Nat × Plan) := []
def kp196 : List (Nat × List Nat) := [(0, [0]), (1, [0])]
noncomputable def s196 : SCode := toS (planAt pl196) (keepAt kp196) (Tryz.f196.body.getD .skip)
theorem fn196 : FnIs Tryz.prog 196 13 [.tmp 2] s196 := FnIs.mk' (planAt pl196) (keepAt kp196) (by kernel_rfl)
def pl197 : List (Nat × Plan) := []
def kp197 : List (Nat × List Nat) := [(0, [0]), (1, [0])]
noncomputable def s197 : SCode := toS (planAt pl197) (keepAt kp197) (Tryz.f197.body.getD .skip)
theorem fn197 : FnIs Tryz.prog 197 9 [.tmp 2] s197 := FnIs.mk' (planAt pl197) (keepAt kp197) (by kernel_rfl)
def pl199 : List (Nat × Plan) := []
def kp199 : List (Nat × List Nat) := [(0, [0, 1]), (1, [0, 1])]
noncomputable def s199 : SCode := toS (planAt pl199) (keepAt kp199) (Tryz.f199.body.getD .skip)
theorem fn199 : FnIs Tryz.prog 199 8 [.tmp 4] s199 := FnIs.mk' (planAt pl199) (keepAt kp199) (by kernel_rfl)
def pl219 : List (Nat × Plan) := []
def kp219 : List (Nat × List Nat) := [(0, [0, 1]), (1, [0, 1])]
noncomputable def s219 : SCode := toS (planAt pl219) (keepAt kp219) (Tryz.f219.body.getD .skip)
theorem fn219 : FnIs Tryz.prog 219 18 [.tmp 4] s219 := FnIs.mk' (planAt pl219) (keepAt kp219) (by kernel_rfl)
end Go.Aug

/- The parser's deferred closure where the parser returns: it does nothing that is seen. -/
namespace Go.Aug
open Go.Proofs Go.RowKit
set_option maxRecDepth 100000

theorem func69 : Tryz.prog.funcs[69]? = some Tryz.f69 := by kernel_rfl
theorem ntmps69 : Tryz.f69.ntmps = 14 := by kernel_rfl
theorem results69 : Tryz.f69.results = #[] := by kernel_rfl
theorem under134 : (Tryz.prog.underlying 134).map (fun u => match u with | .struct _ => true | _ => false) = some true := by kernel_rfl
theorem zero134 : (Tryz.prog.info? 134).map (fun i => (i.zero, i.size)) = some (some (.agg #[.nilIface]), 1) := by kernel_rfl

theorem assert134 (w : World) : (Instr.typeAssert .nilIface 20 134 true).run Tryz.prog w = .ok (.tuple #[.agg #[.nilIface], .bool false]) w := by
  have h1 := under134
  have h2 := zero134
  cases hu : Tryz.prog.underlying 134 with
  | none => rw [hu] at h1; cases h1
  | some u =>
    cases hi : Tryz.prog.info? 134 with
    | none => rw [hi] at h2; cases h2
    | some i =>
      rw [hu] at h1; rw [hi] at h2
      simp only [Option.map_some, Option.some.injEq, Prod.mk.injEq] at h1 h2
      cases u with
      | struct fs => simp [Instr.typeAssert, run_underlying hu, zeroValue, typeInfo, hi, h2.1]
      | _ => cases h1

theorem idle69 : IdleD Tryz.prog 2 69 := by
  intro cv w hcv
  obtain ⟨l⟩ := cv
  match l, hcv with
  | [p, q], _ =>
  refine callsD_of_wpS func69 rfl fun c₀ cs hu => ?_
  apply wpS_seq
  apply wpS_region
  have hta := assert134
  simp [wpOpsS, go_sem, recoverD, hu, ntmps69, Exit.thenS, hta]
  apply wpS_seq
  apply wpS_region
  simp [wpOpsS, go_sem, Exit.thenS]
  refine wpS_cond (t := false) (by simp [Act.eval, Array.replicate]) ?_
  simp only [Bool.false_eq_true, if_false]
  refine wpS_of_wp (wp_skip ?_)
  have hb : Below w.heap.size w ((w.alloc (Obj.cells #[Value.nilIface] 134)).setCell { block := w.heap.size, off := 0 } Value.nilIface) := ((Below.refl w.heap.size w).alloc (Nat.le_refl _) _).setCell (Nat.le_refl _) _
  cases c₀
  simp_all [bodyPostS, results, results69]
end Go.Aug
