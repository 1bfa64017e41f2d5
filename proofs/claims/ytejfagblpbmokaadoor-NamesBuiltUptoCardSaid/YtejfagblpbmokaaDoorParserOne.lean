/- The facts of the program's functions, and the contracts of the reference's tokens and parser; conditions stand in each contract. -/
import Derived.Test.YtejfagblpbmokaaDoorAugFour
import Derived.Test.YtejfagblpbmokaaDoorProg
import Derived.KernelRfl
set_option linter.all false
set_option linter.unusedVariables false
set_option linter.unusedSimpArgs false
set_option linter.unusedSectionVars false

/- The facts of the program's types and of the reference's parser that the reckoning asks; by program (gn.sh, gen2.py). -/
namespace Go.Aug
open Go.Proofs
set_option maxRecDepth 100000
/-- The package variables are the sixteen errors. -/
structure EbG where
  eb : Nat → Addr
  on : Nat → Bool
class On (e : EbG) (g : Nat) : Prop where
  on : e.on g = true
def seatV (e : EbG) : Env := ⟨206, 223, e.eb, fun g => if e.on g = true then some (.sent g) else none, fun _ => none, fun _ => false⟩
@[go_sem] theorem seatV_nz {e : EbG} {t : TypeId} : (seatV e).nz t = false := Eq.trans rfl rfl
theorem seatV_on {e : EbG} {g : Nat} (h : On e g) : (seatV e).G g = some (.sent g) := if_pos h.on
theorem mixed : Tryd.prog.follows .mixedOrders = true := by kernel_rfl
@[go_sem] theorem q_appOf_125 : appOf Tryd.prog 125 = (some (199, (3, 32))) := by kernel_rfl
@[go_sem] theorem q_appOf_23 : appOf Tryd.prog 23 = (some (68, (20, 336))) := by kernel_rfl
@[go_sem] theorem q_appOf_24 : appOf Tryd.prog 24 = (some (81, (6, 96))) := by kernel_rfl
@[go_sem] theorem q_appOf_25 : appOf Tryd.prog 25 = (some (36, (5, 96))) := by kernel_rfl
@[go_sem] theorem q_appOf_32 : appOf Tryd.prog 32 = (some (135, (3, 48))) := by kernel_rfl
@[go_sem] theorem q_appOf_33 : appOf Tryd.prog 33 = (some (117, (2, 32))) := by kernel_rfl
@[go_sem] theorem q_appOf_34 : appOf Tryd.prog 34 = (some (3, (1, 8))) := by kernel_rfl
@[go_sem] theorem q_appOf_58 : appOf Tryd.prog 58 = (some (9, (1, 16))) := by kernel_rfl
@[go_sem] theorem q_appOf_59 : appOf Tryd.prog 59 = (some (114, (2, 40))) := by kernel_rfl
@[go_sem] theorem q_appOf_60 : appOf Tryd.prog 60 = (some (4, (1, 1))) := by kernel_rfl
@[go_sem] theorem q_appOf_61 : appOf Tryd.prog 61 = (some (63, (4, 56))) := by kernel_rfl
@[go_sem] theorem q_appOf_64 : appOf Tryd.prog 64 = (some (66, (12, 184))) := by kernel_rfl
@[go_sem] theorem q_bldOf_107 : bldOf Tryd.prog 107 = (some ([.nils, .nils, .nils, (.d (.raw (.map none))), (.d (.raw (.map none))), (.d (.raw (.map none))), (.d (.bool false))], [(0, 3), (3, 1), (4, 1), (5, 1), (6, 1)])) := by kernel_rfl
@[go_sem] theorem q_bldOf_114 : bldOf Tryd.prog 114 = (some ([(.d (.str (ByteArray.mk (Array.mk [])))), .nils], [(0, 1), (1, 1)])) := by kernel_rfl
@[go_sem] theorem q_bldOf_117 : bldOf Tryd.prog 117 = (some ([.nils, (.d (.int .i64 (0 : Int)))], [(0, 1), (1, 1)])) := by kernel_rfl
@[go_sem] theorem q_bldOf_127 : bldOf Tryd.prog 127 = (some ([.nils, (.d (.int .i64 (0 : Int))), (.d (.int .i64 (0 : Int)))], [(0, 1), (1, 1), (2, 1)])) := by kernel_rfl
@[go_sem] theorem q_bldOf_135 : bldOf Tryd.prog 135 = (some ([(.d (.bool false)), (.d (.str (ByteArray.mk (Array.mk [])))), .nils], [(0, 1), (1, 1), (2, 1)])) := by kernel_rfl
@[go_sem] theorem q_bldOf_199 : bldOf Tryd.prog 199 = (some ([(.d (.int .i64 (0 : Int))), (.d (.str (ByteArray.mk (Array.mk [])))), (.d (.int .i64 (0 : Int)))], [(0, 1), (1, 1), (2, 1)])) := by kernel_rfl
@[go_sem] theorem q_bldOf_27 : bldOf Tryd.prog 27 = (some ([.nils, .nils, .nils], [(0, 1), (1, 1), (2, 1)])) := by kernel_rfl
@[go_sem] theorem q_bldOf_31 : bldOf Tryd.prog 31 = (some ([(.d (.str (ByteArray.mk (Array.mk [])))), (.d (.int .i64 (0 : Int)))], [(0, 1), (1, 1)])) := by kernel_rfl
@[go_sem] theorem q_bldOf_36 : bldOf Tryd.prog 36 = (some ([(.d (.str (ByteArray.mk (Array.mk [])))), (.d (.int .i64 (0 : Int))), .nils, .nils, .nils], [(0, 2), (2, 1), (3, 1), (4, 1)])) := by kernel_rfl
@[go_sem] theorem q_bldOf_63 : bldOf Tryd.prog 63 = (some ([(.d (.int .i64 (0 : Int))), (.d (.str (ByteArray.mk (Array.mk [])))), (.d (.int .i64 (0 : Int))), .nils], [(0, 1), (1, 1), (2, 1), (3, 1)])) := by kernel_rfl
@[go_sem] theorem q_bldOf_66 : bldOf Tryd.prog 66 = (some ([(.d (.int .i64 (0 : Int))), (.d (.int .i64 (0 : Int))), (.d (.str (ByteArray.mk (Array.mk [])))), (.d (.int .i64 (0 : Int))), .nils, (.d (.int .i64 (0 : Int))), (.d (.str (ByteArray.mk (Array.mk [])))), (.d (.int .i64 (0 : Int))), .nils, (.d (.str (ByteArray.mk (Array.mk [])))), .nils, .nils], [(0, 1), (1, 4), (5, 4), (9, 1), (10, 1), (11, 1)])) := by kernel_rfl
@[go_sem] theorem q_bldOf_68 : bldOf Tryd.prog 68 = (some ([(.d (.int .i64 (0 : Int))), (.d (.str (ByteArray.mk (Array.mk [])))), .nils, .nils, .nils, .nils, (.d (.int .i64 (0 : Int))), .nils, (.d (.int .i64 (0 : Int))), (.d (.int .i64 (0 : Int))), (.d (.str (ByteArray.mk (Array.mk [])))), (.d (.int .i64 (0 : Int))), .nils, (.d (.int .i64 (0 : Int))), (.d (.str (ByteArray.mk (Array.mk [])))), (.d (.int .i64 (0 : Int))), .nils, (.d (.str (ByteArray.mk (Array.mk [])))), .nils, .nils], [(0, 1), (1, 1), (2, 1), (3, 1), (4, 1), (5, 1), (6, 1), (7, 1), (8, 12)])) := by kernel_rfl
@[go_sem] theorem q_bldOf_81 : bldOf Tryd.prog 81 = (some ([(.d (.str (ByteArray.mk (Array.mk [])))), (.d (.int .i64 (0 : Int))), (.d (.str (ByteArray.mk (Array.mk [])))), .nils, .nils, (.d (.int .i64 (0 : Int)))], [(0, 2), (2, 1), (3, 1), (4, 1), (5, 1)])) := by kernel_rfl
@[go_sem] theorem q_bsOf_125 : bsOf Tryd.prog 125 = (some (199, (3, false))) := by kernel_rfl
@[go_sem] theorem q_bsOf_203 : bsOf Tryd.prog 203 = (some (5, (1, true))) := by kernel_rfl
@[go_sem] theorem q_bsOf_23 : bsOf Tryd.prog 23 = (some (68, (20, false))) := by kernel_rfl
@[go_sem] theorem q_bsOf_24 : bsOf Tryd.prog 24 = (some (81, (6, false))) := by kernel_rfl
@[go_sem] theorem q_bsOf_25 : bsOf Tryd.prog 25 = (some (36, (5, false))) := by kernel_rfl
@[go_sem] theorem q_bsOf_32 : bsOf Tryd.prog 32 = (some (135, (3, false))) := by kernel_rfl
@[go_sem] theorem q_bsOf_33 : bsOf Tryd.prog 33 = (some (117, (2, false))) := by kernel_rfl
@[go_sem] theorem q_bsOf_34 : bsOf Tryd.prog 34 = (some (3, (1, false))) := by kernel_rfl
@[go_sem] theorem q_bsOf_58 : bsOf Tryd.prog 58 = (some (9, (1, false))) := by kernel_rfl
@[go_sem] theorem q_bsOf_59 : bsOf Tryd.prog 59 = (some (114, (2, false))) := by kernel_rfl
@[go_sem] theorem q_bsOf_60 : bsOf Tryd.prog 60 = (some (4, (1, false))) := by kernel_rfl
@[go_sem] theorem q_bsOf_61 : bsOf Tryd.prog 61 = (some (63, (4, false))) := by kernel_rfl
@[go_sem] theorem q_bsOf_64 : bsOf Tryd.prog 64 = (some (66, (12, false))) := by kernel_rfl
@[go_sem] theorem q_callable_100 : callable Tryd.prog 100 = true := by kernel_rfl
@[go_sem] theorem q_callable_101 : callable Tryd.prog 101 = true := by kernel_rfl
@[go_sem] theorem q_callable_111 : callable Tryd.prog 111 = true := by kernel_rfl
@[go_sem] theorem q_callable_112 : callable Tryd.prog 112 = true := by kernel_rfl
@[go_sem] theorem q_callable_113 : callable Tryd.prog 113 = true := by kernel_rfl
@[go_sem] theorem q_callable_114 : callable Tryd.prog 114 = true := by kernel_rfl
@[go_sem] theorem q_callable_115 : callable Tryd.prog 115 = true := by kernel_rfl
@[go_sem] theorem q_callable_116 : callable Tryd.prog 116 = true := by kernel_rfl
@[go_sem] theorem q_callable_117 : callable Tryd.prog 117 = true := by kernel_rfl
@[go_sem] theorem q_callable_118 : callable Tryd.prog 118 = true := by kernel_rfl
@[go_sem] theorem q_callable_119 : callable Tryd.prog 119 = true := by kernel_rfl
@[go_sem] theorem q_callable_133 : callable Tryd.prog 133 = true := by kernel_rfl
@[go_sem] theorem q_callable_134 : callable Tryd.prog 134 = true := by kernel_rfl
@[go_sem] theorem q_callable_135 : callable Tryd.prog 135 = true := by kernel_rfl
@[go_sem] theorem q_callable_137 : callable Tryd.prog 137 = true := by kernel_rfl
@[go_sem] theorem q_callable_138 : callable Tryd.prog 138 = true := by kernel_rfl
@[go_sem] theorem q_callable_139 : callable Tryd.prog 139 = true := by kernel_rfl
@[go_sem] theorem q_callable_140 : callable Tryd.prog 140 = true := by kernel_rfl
@[go_sem] theorem q_callable_141 : callable Tryd.prog 141 = true := by kernel_rfl
@[go_sem] theorem q_callable_143 : callable Tryd.prog 143 = true := by kernel_rfl
@[go_sem] theorem q_callable_144 : callable Tryd.prog 144 = true := by kernel_rfl
@[go_sem] theorem q_callable_145 : callable Tryd.prog 145 = true := by kernel_rfl
@[go_sem] theorem q_callable_146 : callable Tryd.prog 146 = true := by kernel_rfl
@[go_sem] theorem q_callable_147 : callable Tryd.prog 147 = true := by kernel_rfl
@[go_sem] theorem q_callable_17 : callable Tryd.prog 17 = true := by kernel_rfl
@[go_sem] theorem q_callable_18 : callable Tryd.prog 18 = true := by kernel_rfl
@[go_sem] theorem q_callable_19 : callable Tryd.prog 19 = true := by kernel_rfl
@[go_sem] theorem q_callable_23 : callable Tryd.prog 23 = true := by kernel_rfl
@[go_sem] theorem q_callable_24 : callable Tryd.prog 24 = true := by kernel_rfl
@[go_sem] theorem q_callable_38 : callable Tryd.prog 38 = true := by kernel_rfl
@[go_sem] theorem q_callable_50 : callable Tryd.prog 50 = true := by kernel_rfl
@[go_sem] theorem q_callable_51 : callable Tryd.prog 51 = true := by kernel_rfl
@[go_sem] theorem q_callable_52 : callable Tryd.prog 52 = true := by kernel_rfl
@[go_sem] theorem q_callable_53 : callable Tryd.prog 53 = true := by kernel_rfl
@[go_sem] theorem q_callable_58 : callable Tryd.prog 58 = true := by kernel_rfl
@[go_sem] theorem q_callable_59 : callable Tryd.prog 59 = true := by kernel_rfl
@[go_sem] theorem q_callable_60 : callable Tryd.prog 60 = true := by kernel_rfl
@[go_sem] theorem q_callable_61 : callable Tryd.prog 61 = true := by kernel_rfl
@[go_sem] theorem q_callable_62 : callable Tryd.prog 62 = true := by kernel_rfl
@[go_sem] theorem q_callable_63 : callable Tryd.prog 63 = true := by kernel_rfl
@[go_sem] theorem q_callable_64 : callable Tryd.prog 64 = true := by kernel_rfl
@[go_sem] theorem q_callable_82 : callable Tryd.prog 82 = true := by kernel_rfl
@[go_sem] theorem q_callable_84 : callable Tryd.prog 84 = true := by kernel_rfl
@[go_sem] theorem q_callable_95 : callable Tryd.prog 95 = true := by kernel_rfl
@[go_sem] theorem q_callable_96 : callable Tryd.prog 96 = true := by kernel_rfl
@[go_sem] theorem q_callable_97 : callable Tryd.prog 97 = true := by kernel_rfl
@[go_sem] theorem q_callable_98 : callable Tryd.prog 98 = true := by kernel_rfl
@[go_sem] theorem q_callable_99 : callable Tryd.prog 99 = true := by kernel_rfl
@[go_sem] theorem q_convOf_5_3 : convOf Tryd.prog 5 3 = (some (Conv.int .i64)) := by kernel_rfl
@[go_sem] theorem q_errTy_V_43 {eb : EbG} : errTy Tryd.prog (seatV eb) 43 = true := by kernel_rfl
@[go_sem] theorem q_fieldOff_107_0 : fieldOff Tryd.prog 107 0 = (some 0) := by kernel_rfl
@[go_sem] theorem q_fieldOff_107_1 : fieldOff Tryd.prog 107 1 = (some 3) := by kernel_rfl
@[go_sem] theorem q_fieldOff_107_2 : fieldOff Tryd.prog 107 2 = (some 4) := by kernel_rfl
@[go_sem] theorem q_fieldOff_107_3 : fieldOff Tryd.prog 107 3 = (some 5) := by kernel_rfl
@[go_sem] theorem q_fieldOff_107_4 : fieldOff Tryd.prog 107 4 = (some 6) := by kernel_rfl
@[go_sem] theorem q_fieldOff_114_0 : fieldOff Tryd.prog 114 0 = (some 0) := by kernel_rfl
@[go_sem] theorem q_fieldOff_114_1 : fieldOff Tryd.prog 114 1 = (some 1) := by kernel_rfl
@[go_sem] theorem q_fieldOff_117_0 : fieldOff Tryd.prog 117 0 = (some 0) := by kernel_rfl
@[go_sem] theorem q_fieldOff_127_0 : fieldOff Tryd.prog 127 0 = (some 0) := by kernel_rfl
@[go_sem] theorem q_fieldOff_127_1 : fieldOff Tryd.prog 127 1 = (some 1) := by kernel_rfl
@[go_sem] theorem q_fieldOff_127_2 : fieldOff Tryd.prog 127 2 = (some 2) := by kernel_rfl
@[go_sem] theorem q_fieldOff_135_0 : fieldOff Tryd.prog 135 0 = (some 0) := by kernel_rfl
@[go_sem] theorem q_fieldOff_135_1 : fieldOff Tryd.prog 135 1 = (some 1) := by kernel_rfl
@[go_sem] theorem q_fieldOff_135_2 : fieldOff Tryd.prog 135 2 = (some 2) := by kernel_rfl
@[go_sem] theorem q_fieldOff_199_0 : fieldOff Tryd.prog 199 0 = (some 0) := by kernel_rfl
@[go_sem] theorem q_fieldOff_199_1 : fieldOff Tryd.prog 199 1 = (some 1) := by kernel_rfl
@[go_sem] theorem q_fieldOff_199_2 : fieldOff Tryd.prog 199 2 = (some 2) := by kernel_rfl
@[go_sem] theorem q_fieldOff_27_0 : fieldOff Tryd.prog 27 0 = (some 0) := by kernel_rfl
@[go_sem] theorem q_fieldOff_27_1 : fieldOff Tryd.prog 27 1 = (some 1) := by kernel_rfl
@[go_sem] theorem q_fieldOff_27_2 : fieldOff Tryd.prog 27 2 = (some 2) := by kernel_rfl
@[go_sem] theorem q_fieldOff_31_1 : fieldOff Tryd.prog 31 1 = (some 1) := by kernel_rfl
@[go_sem] theorem q_fieldOff_36_0 : fieldOff Tryd.prog 36 0 = (some 0) := by kernel_rfl
@[go_sem] theorem q_fieldOff_36_1 : fieldOff Tryd.prog 36 1 = (some 2) := by kernel_rfl
@[go_sem] theorem q_fieldOff_36_2 : fieldOff Tryd.prog 36 2 = (some 3) := by kernel_rfl
@[go_sem] theorem q_fieldOff_36_3 : fieldOff Tryd.prog 36 3 = (some 4) := by kernel_rfl
@[go_sem] theorem q_fieldOff_63_0 : fieldOff Tryd.prog 63 0 = (some 0) := by kernel_rfl
@[go_sem] theorem q_fieldOff_63_1 : fieldOff Tryd.prog 63 1 = (some 1) := by kernel_rfl
@[go_sem] theorem q_fieldOff_63_3 : fieldOff Tryd.prog 63 3 = (some 3) := by kernel_rfl
@[go_sem] theorem q_fieldOff_66_0 : fieldOff Tryd.prog 66 0 = (some 0) := by kernel_rfl
@[go_sem] theorem q_fieldOff_66_1 : fieldOff Tryd.prog 66 1 = (some 1) := by kernel_rfl
@[go_sem] theorem q_fieldOff_66_2 : fieldOff Tryd.prog 66 2 = (some 5) := by kernel_rfl
@[go_sem] theorem q_fieldOff_66_3 : fieldOff Tryd.prog 66 3 = (some 9) := by kernel_rfl
@[go_sem] theorem q_fieldOff_66_4 : fieldOff Tryd.prog 66 4 = (some 10) := by kernel_rfl
@[go_sem] theorem q_fieldOff_66_5 : fieldOff Tryd.prog 66 5 = (some 11) := by kernel_rfl
@[go_sem] theorem q_fieldOff_68_0 : fieldOff Tryd.prog 68 0 = (some 0) := by kernel_rfl
@[go_sem] theorem q_fieldOff_68_1 : fieldOff Tryd.prog 68 1 = (some 1) := by kernel_rfl
@[go_sem] theorem q_fieldOff_68_2 : fieldOff Tryd.prog 68 2 = (some 2) := by kernel_rfl
@[go_sem] theorem q_fieldOff_68_3 : fieldOff Tryd.prog 68 3 = (some 3) := by kernel_rfl
@[go_sem] theorem q_fieldOff_68_4 : fieldOff Tryd.prog 68 4 = (some 4) := by kernel_rfl
@[go_sem] theorem q_fieldOff_68_5 : fieldOff Tryd.prog 68 5 = (some 5) := by kernel_rfl
@[go_sem] theorem q_fieldOff_68_6 : fieldOff Tryd.prog 68 6 = (some 6) := by kernel_rfl
@[go_sem] theorem q_fieldOff_68_7 : fieldOff Tryd.prog 68 7 = (some 7) := by kernel_rfl
@[go_sem] theorem q_fieldOff_68_8 : fieldOff Tryd.prog 68 8 = (some 8) := by kernel_rfl
@[go_sem] theorem q_idxOf_125 : idxOf Tryd.prog 125 = (some 3) := by kernel_rfl
@[go_sem] theorem q_idxOf_203 : idxOf Tryd.prog 203 = (some 1) := by kernel_rfl
@[go_sem] theorem q_idxOf_23 : idxOf Tryd.prog 23 = (some 20) := by kernel_rfl
@[go_sem] theorem q_idxOf_25 : idxOf Tryd.prog 25 = (some 5) := by kernel_rfl
@[go_sem] theorem q_idxOf_32 : idxOf Tryd.prog 32 = (some 3) := by kernel_rfl
@[go_sem] theorem q_idxOf_33 : idxOf Tryd.prog 33 = (some 2) := by kernel_rfl
@[go_sem] theorem q_idxOf_58 : idxOf Tryd.prog 58 = (some 1) := by kernel_rfl
@[go_sem] theorem q_idxOf_59 : idxOf Tryd.prog 59 = (some 2) := by kernel_rfl
@[go_sem] theorem q_idxOf_60 : idxOf Tryd.prog 60 = (some 1) := by kernel_rfl
@[go_sem] theorem q_idxOf_61 : idxOf Tryd.prog 61 = (some 4) := by kernel_rfl
@[go_sem] theorem q_idxOf_64 : idxOf Tryd.prog 64 = (some 12) := by kernel_rfl
@[go_sem] theorem q_isBoolT_4 : isBoolT Tryd.prog 4 = true := by kernel_rfl
@[go_sem] theorem q_isIface_43 : isIface Tryd.prog 43 = true := by kernel_rfl
@[go_sem] theorem q_isPtrT_163 : isPtrT Tryd.prog 163 = true := by kernel_rfl
@[go_sem] theorem q_isSliceT_125 : isSliceT Tryd.prog 125 = true := by kernel_rfl
@[go_sem] theorem q_isSliceT_203 : isSliceT Tryd.prog 203 = true := by kernel_rfl
@[go_sem] theorem q_isSliceT_23 : isSliceT Tryd.prog 23 = true := by kernel_rfl
@[go_sem] theorem q_isSliceT_24 : isSliceT Tryd.prog 24 = true := by kernel_rfl
@[go_sem] theorem q_isSliceT_25 : isSliceT Tryd.prog 25 = true := by kernel_rfl
@[go_sem] theorem q_isSliceT_32 : isSliceT Tryd.prog 32 = true := by kernel_rfl
@[go_sem] theorem q_isSliceT_33 : isSliceT Tryd.prog 33 = true := by kernel_rfl
@[go_sem] theorem q_isSliceT_58 : isSliceT Tryd.prog 58 = true := by kernel_rfl
@[go_sem] theorem q_isSliceT_59 : isSliceT Tryd.prog 59 = true := by kernel_rfl
@[go_sem] theorem q_isSliceT_60 : isSliceT Tryd.prog 60 = true := by kernel_rfl
@[go_sem] theorem q_isSliceT_61 : isSliceT Tryd.prog 61 = true := by kernel_rfl
@[go_sem] theorem q_isSliceT_64 : isSliceT Tryd.prog 64 = true := by kernel_rfl
@[go_sem] theorem q_isStrT_9 : isStrT Tryd.prog 9 = true := by kernel_rfl
@[go_sem] theorem q_keyK_31 : keyK Tryd.prog 31 = (some (.row [.str, (.int .i64)])) := by kernel_rfl
@[go_sem] theorem q_mapOf_105 : mapOf Tryd.prog 105 = (some ((.row [.str, (.int .i64)]), (.int .i64 (0 : Int)))) := by kernel_rfl
@[go_sem] theorem q_mapOf_192 : mapOf Tryd.prog 192 = (some ((.one .str), (.bool false))) := by kernel_rfl
@[go_sem] theorem q_mapOf_97 : mapOf Tryd.prog 97 = (some ((.one .str), (.int .i64 (0 : Int)))) := by kernel_rfl
@[go_sem] theorem q_sameSl_203_203 : sameSl Tryd.prog 203 203 = true := by kernel_rfl
@[go_sem] theorem q_sameSl_5_3 : sameSl Tryd.prog 5 3 = false := by kernel_rfl
@[go_sem] theorem q_sliceOf_9 : sliceOf Tryd.prog 9 = (some none) := by kernel_rfl
@[go_sem] theorem q_tshape_105 : tshape Tryd.prog 105 = (some (false, 1)) := by kernel_rfl
@[go_sem] theorem q_tshape_114 : tshape Tryd.prog 114 = (some (true, 2)) := by kernel_rfl
@[go_sem] theorem q_tshape_117 : tshape Tryd.prog 117 = (some (true, 2)) := by kernel_rfl
@[go_sem] theorem q_tshape_125 : tshape Tryd.prog 125 = (some (false, 1)) := by kernel_rfl
@[go_sem] theorem q_tshape_135 : tshape Tryd.prog 135 = (some (true, 3)) := by kernel_rfl
@[go_sem] theorem q_tshape_199 : tshape Tryd.prog 199 = (some (true, 3)) := by kernel_rfl
@[go_sem] theorem q_tshape_23 : tshape Tryd.prog 23 = (some (false, 1)) := by kernel_rfl
@[go_sem] theorem q_tshape_24 : tshape Tryd.prog 24 = (some (false, 1)) := by kernel_rfl
@[go_sem] theorem q_tshape_25 : tshape Tryd.prog 25 = (some (false, 1)) := by kernel_rfl
@[go_sem] theorem q_tshape_27 : tshape Tryd.prog 27 = (some (true, 3)) := by kernel_rfl
@[go_sem] theorem q_tshape_3 : tshape Tryd.prog 3 = (some (false, 1)) := by kernel_rfl
@[go_sem] theorem q_tshape_31 : tshape Tryd.prog 31 = (some (true, 2)) := by kernel_rfl
@[go_sem] theorem q_tshape_32 : tshape Tryd.prog 32 = (some (false, 1)) := by kernel_rfl
@[go_sem] theorem q_tshape_33 : tshape Tryd.prog 33 = (some (false, 1)) := by kernel_rfl
@[go_sem] theorem q_tshape_34 : tshape Tryd.prog 34 = (some (false, 1)) := by kernel_rfl
@[go_sem] theorem q_tshape_36 : tshape Tryd.prog 36 = (some (true, 5)) := by kernel_rfl
@[go_sem] theorem q_tshape_4 : tshape Tryd.prog 4 = (some (false, 1)) := by kernel_rfl
@[go_sem] theorem q_tshape_43 : tshape Tryd.prog 43 = (some (false, 1)) := by kernel_rfl
@[go_sem] theorem q_tshape_5 : tshape Tryd.prog 5 = (some (false, 1)) := by kernel_rfl
@[go_sem] theorem q_tshape_58 : tshape Tryd.prog 58 = (some (false, 1)) := by kernel_rfl
@[go_sem] theorem q_tshape_59 : tshape Tryd.prog 59 = (some (false, 1)) := by kernel_rfl
@[go_sem] theorem q_tshape_60 : tshape Tryd.prog 60 = (some (false, 1)) := by kernel_rfl
@[go_sem] theorem q_tshape_61 : tshape Tryd.prog 61 = (some (false, 1)) := by kernel_rfl
@[go_sem] theorem q_tshape_63 : tshape Tryd.prog 63 = (some (true, 4)) := by kernel_rfl
@[go_sem] theorem q_tshape_64 : tshape Tryd.prog 64 = (some (false, 1)) := by kernel_rfl
@[go_sem] theorem q_tshape_66 : tshape Tryd.prog 66 = (some (true, 12)) := by kernel_rfl
@[go_sem] theorem q_tshape_68 : tshape Tryd.prog 68 = (some (true, 20)) := by kernel_rfl
@[go_sem] theorem q_tshape_9 : tshape Tryd.prog 9 = (some (false, 1)) := by kernel_rfl
@[go_sem] theorem q_tshape_97 : tshape Tryd.prog 97 = (some (false, 1)) := by kernel_rfl
@[go_sem] theorem q_zeroOf_114 : zeroOf Tryd.prog 114 = (some [(.d (.str (ByteArray.mk (Array.mk [])))), .nils]) := by kernel_rfl
@[go_sem] theorem q_zeroOf_135 : zeroOf Tryd.prog 135 = (some [(.d (.bool false)), (.d (.str (ByteArray.mk (Array.mk [])))), .nils]) := by kernel_rfl
@[go_sem] theorem q_zeroOf_199 : zeroOf Tryd.prog 199 = (some [(.d (.int .i64 (0 : Int))), (.d (.str (ByteArray.mk (Array.mk [])))), (.d (.int .i64 (0 : Int)))]) := by kernel_rfl
@[go_sem] theorem q_zeroOf_27 : zeroOf Tryd.prog 27 = (some [.nils, .nils, .nils]) := by kernel_rfl
@[go_sem] theorem q_zeroOf_31 : zeroOf Tryd.prog 31 = (some [(.d (.str (ByteArray.mk (Array.mk [])))), (.d (.int .i64 (0 : Int)))]) := by kernel_rfl
@[go_sem] theorem q_zeroOf_36 : zeroOf Tryd.prog 36 = (some [(.d (.str (ByteArray.mk (Array.mk [])))), (.d (.int .i64 (0 : Int))), .nils, .nils, .nils]) := by kernel_rfl
@[go_sem] theorem q_zeroOf_63 : zeroOf Tryd.prog 63 = (some [(.d (.int .i64 (0 : Int))), (.d (.str (ByteArray.mk (Array.mk [])))), (.d (.int .i64 (0 : Int))), .nils]) := by kernel_rfl
@[go_sem] theorem q_zeroOf_66 : zeroOf Tryd.prog 66 = (some [(.d (.int .i64 (0 : Int))), (.d (.int .i64 (0 : Int))), (.d (.str (ByteArray.mk (Array.mk [])))), (.d (.int .i64 (0 : Int))), .nils, (.d (.int .i64 (0 : Int))), (.d (.str (ByteArray.mk (Array.mk [])))), (.d (.int .i64 (0 : Int))), .nils, (.d (.str (ByteArray.mk (Array.mk [])))), .nils, .nils]) := by kernel_rfl
@[go_sem] theorem q_zeroOf_68 : zeroOf Tryd.prog 68 = (some [(.d (.int .i64 (0 : Int))), (.d (.str (ByteArray.mk (Array.mk [])))), .nils, .nils, .nils, .nils, (.d (.int .i64 (0 : Int))), .nils, (.d (.int .i64 (0 : Int))), (.d (.int .i64 (0 : Int))), (.d (.str (ByteArray.mk (Array.mk [])))), (.d (.int .i64 (0 : Int))), .nils, (.d (.int .i64 (0 : Int))), (.d (.str (ByteArray.mk (Array.mk [])))), (.d (.int .i64 (0 : Int))), .nils, (.d (.str (ByteArray.mk (Array.mk [])))), .nils, .nils]) := by kernel_rfl
def pl3 : List (Nat × Plan) := [(14, (.fl 0 (.fl 1 (.fl 2 (.fl 3 (.fl 4 (.fl 5 (.fl 6 (.eff 7 [1] (.fl 8 (.fl 9 (.eff 10 [] .done)))))))))))), (21, (.fl 0 (.fl 1 (.fl 2 (.fl 3 (.fl 4 (.fl 5 (.fl 6 (.eff 7 [] (.fl 8 .done))))))))))]
def kp3 : List (Nat × List Nat) := [(0, [0]), (1, [0]), (2, []), (3, [0]), (4, [3, 4, 5]), (5, []), (6, [3, 4]), (7, [3, 4, 26, 27, 28]), (8, [3, 4, 26, 27, 28]), (9, [3, 4, 6, 7, 26, 27, 28]), (10, [3, 4, 6, 7, 8, 26, 27, 28]), (11, [3, 4, 6, 7, 8, 9, 10, 26, 27, 28]), (12, [3, 4, 6, 7, 8, 9, 26, 27, 28]), (13, [3, 4, 6, 7, 8, 9, 11, 26, 27, 28]), (14, [3, 4, 6, 7, 8, 9, 11, 26, 27, 28]), (15, [3, 4, 7, 8, 9, 11, 26, 27, 28]), (16, [3, 4, 8, 9, 10, 12, 26, 27, 28]), (17, []), (18, [3, 4, 9, 12, 26, 27, 28]), (19, [3, 4, 9, 26, 27, 28, 102, 103, 104]), (20, [3, 4, 9, 26, 27, 28, 102, 103, 104]), (21, [3, 4, 9, 13, 14, 26, 27, 28, 102, 103, 104]), (22, []), (23, [3, 4, 9, 26, 27, 28, 102, 103, 104]), (24, [3, 4, 26, 27, 28]), (25, [])]
noncomputable def s3 : SCode := toS (planAt pl3) (keepAt kp3) (Tryd.f3.body.getD .skip)
def pl4 : List (Nat × Plan) := []
def kp4 : List (Nat × List Nat) := [(0, [0]), (1, [0]), (2, []), (3, [0]), (4, [0, 3, 4]), (5, []), (6, [0, 3]), (7, [3, 5]), (8, [3, 5, 7, 8]), (9, [3, 5, 7, 8, 9, 10])]
noncomputable def s4 : SCode := toS (planAt pl4) (keepAt kp4) (Tryd.f4.body.getD .skip)
def pl5 : List (Nat × Plan) := []
def kp5 : List (Nat × List Nat) := [(0, [0, 1]), (1, [0, 1]), (2, []), (3, [0, 1]), (4, [0, 1]), (5, [0, 1, 5, 6]), (6, []), (7, [0, 1]), (8, [0, 1, 7, 8, 9]), (9, [0, 1, 7, 8, 9, 10]), (10, [0, 1, 7, 8, 9, 10]), (11, [0, 1, 7, 8, 9, 10]), (12, [0, 1, 7, 8, 9, 10, 11]), (13, [0, 1, 7, 8, 9, 10]), (14, [0, 1, 7, 8, 9, 10, 11]), (15, [0, 1, 7, 8, 9]), (16, [0, 1, 7, 8, 9]), (17, [0, 1, 7, 8, 9]), (18, [0, 1, 12, 13]), (19, [0, 1, 13, 14, 15]), (20, [13, 14, 15, 16])]
noncomputable def s5 : SCode := toS (planAt pl5) (keepAt kp5) (Tryd.f5.body.getD .skip)
theorem fn5 : FnIs Tryd.prog 5 123 [.tmp 4] s5 := FnIs.mk' (planAt pl5) (keepAt kp5) (by kernel_rfl)
def pl6 : List (Nat × Plan) := []
def kp6 : List (Nat × List Nat) := [(0, [0]), (1, [0]), (2, []), (3, [0]), (4, [3, 4]), (5, []), (6, [3]), (7, [3, 5]), (8, [3, 5, 6]), (9, [3, 5, 6]), (10, [3, 5, 6]), (11, [3, 5]), (12, [5, 7, 8]), (13, [7, 8, 9, 10]), (14, []), (15, [7, 9]), (16, [9, 82, 83, 84]), (17, [9, 82, 83, 84]), (18, [9, 12, 82, 83, 84]), (19, [9, 12, 13, 14, 82, 83, 84]), (20, []), (21, [9, 82, 83, 84]), (22, [])]
noncomputable def s6 : SCode := toS (planAt pl6) (keepAt kp6) (Tryd.f6.body.getD .skip)
def pl7 : List (Nat × Plan) := [(16, (.fl 0 (.fl 1 (.fl 2 (.fl 3 (.fl 4 (.fl 5 (.fl 6 (.fl 7 (.fl 8 (.fl 9 (.fl 10 (.fl 11 (.fl 12 (.fl 13 (.fl 14 (.fl 15 (.fl 16 (.fl 17 (.fl 18 (.fl 19 (.fl 20 (.fl 21 (.fl 22 (.fl 23 (.fl 24 (.fl 25 (.fl 26 (.fl 27 (.fl 28 (.fl 29 (.fl 30 (.fl 31 (.fl 32 (.fl 33 (.fl 34 (.fl 35 (.fl 36 (.fl 37 (.fl 38 (.fl 39 .done))))))))))))))))))))))))))))))))))))))))), (29, (.fl 0 (.fl 1 (.fl 2 (.fl 3 (.fl 5 (.fl 6 (.fl 7 (.fl 8 (.fl 9 (.both (.eff 4 [7, 9] (.eff 10 [3] (.eff 11 [] (.fl 12 (.fl 13 .done))))) (.eff 10 [3] (.eff 4 [7, 9] (.eff 11 [] (.fl 12 (.fl 13 .done))))))))))))))))]
def kp7 : List (Nat × List Nat) := [(0, [0]), (1, [0]), (2, []), (3, [0]), (4, [3, 4]), (5, []), (6, [3]), (7, [3, 5, 6]), (8, []), (9, [3, 5]), (10, [3, 5, 34, 35, 36]), (11, [3, 5, 34, 35, 36]), (12, [3, 5, 8, 34, 35, 36]), (13, [3, 5, 8, 9, 34, 35, 36]), (14, [3, 5, 8, 9, 34, 35, 36, 41, 42, 43]), (15, [3, 5, 8, 9, 34, 35, 36, 41, 42, 43]), (16, [3, 5, 8, 9, 11, 34, 35, 36, 41, 42, 43]), (17, []), (18, [3, 5, 8, 11, 34, 35, 36, 41, 42, 43]), (19, [3, 5, 8, 9, 34, 35, 36, 41, 42, 43]), (20, [3, 5, 8, 34, 35, 36]), (21, []), (22, [3, 5, 34, 35, 36]), (23, [3, 5]), (24, [3, 5, 12]), (25, [5, 12, 103, 104, 105]), (26, [5, 12, 103, 104, 105]), (27, [5, 12, 14, 103, 104, 105]), (28, [5, 12, 14, 103, 104, 105]), (29, [5, 12, 14, 15, 16, 103, 104, 105]), (30, []), (31, [5, 12, 103, 104, 105]), (32, [5, 12, 103, 104, 105]), (33, [5, 12])]
noncomputable def s7 : SCode := toS (planAt pl7) (keepAt kp7) (Tryd.f7.body.getD .skip)
def pl8 : List (Nat × Plan) := []
def kp8 : List (Nat × List Nat) := [(0, [0, 1]), (1, [0, 3]), (2, []), (3, [0, 3]), (4, [0, 3, 5, 6, 7]), (5, []), (6, [0, 3, 5, 6]), (7, [0, 5, 6, 8]), (8, [0, 5, 6, 8, 33, 34, 35]), (9, [0, 5, 6, 8, 33, 34, 35]), (10, [0, 5, 6, 8, 10, 33, 34, 35]), (11, [0, 5, 6, 8, 33, 34, 35]), (12, [0, 5, 6, 8]), (13, [0, 5, 6, 45, 46, 47]), (14, [0, 5, 6, 45, 46, 47]), (15, [0, 5, 6, 12, 45, 46, 47]), (16, [0, 5, 6, 12, 13, 14, 45, 46, 47]), (17, [0, 5, 6, 13, 14, 15, 16, 45, 46, 47]), (18, []), (19, [0, 5, 6, 45, 46, 47]), (20, [0, 5]), (21, [5, 17])]
noncomputable def s8 : SCode := toS (planAt pl8) (keepAt kp8) (Tryd.f8.body.getD .skip)
def pl9 : List (Nat × Plan) := [(13, (.fl 0 (.fl 1 (.fl 2 (.fl 4 (.fl 5 (.fl 6 (.eff 3 [4, 6] (.eff 7 [] (.fl 8 (.fl 9 .done))))))))))), (14, (.fl 0 (.fl 1 (.eff 2 [] (.fl 3 (.fl 4 (.fl 5 (.fl 6 (.fl 7 (.fl 8 (.fl 9 (.fl 10 (.fl 11 (.eff 12 [] (.fl 13 (.fl 14 (.fl 15 (.fl 16 (.fl 17 (.fl 18 (.fl 19 (.fl 20 (.fl 21 (.fl 22 (.fl 23 (.fl 24 (.fl 25 (.fl 26 (.fl 27 (.fl 28 (.fl 29 (.fl 31 (.fl 32 (.eff 30 [31] (.eff 33 [] (.fl 34 (.fl 35 (.fl 36 (.fl 37 (.fl 39 (.eff 38 [39] (.eff 40 [] (.fl 41 (.fl 42 .done)))))))))))))))))))))))))))))))))))))))))))), (19, (.fl 0 (.fl 1 (.fl 2 (.fl 3 (.fl 4 (.fl 5 (.fl 6 (.fl 7 (.eff 8 [] (.fl 9 .done)))))))))))]
def kp9 : List (Nat × List Nat) := [(0, [0, 1, 2]), (1, [0, 2, 4]), (2, []), (3, [0, 2, 4]), (4, [2, 4, 7, 8]), (5, []), (6, [2, 4, 7]), (7, [2, 4, 9, 10]), (8, []), (9, [2, 4, 9]), (10, [2, 4, 9, 11, 12]), (11, [2, 4, 9, 11, 12, 13, 14]), (12, [2, 4, 9, 11, 12, 13, 14, 15, 16]), (13, [2, 4, 9, 11, 12, 13, 14, 15, 16, 17, 18]), (14, [2, 4, 11, 12, 13, 14, 15, 16, 17, 18, 19, 20]), (15, []), (16, [19, 20]), (17, [19, 20, 114, 115]), (18, [19, 20, 114, 115]), (19, [19, 20, 21, 114, 115]), (20, []), (21, [19, 20, 114, 115]), (22, [])]
noncomputable def s9 : SCode := toS (planAt pl9) (keepAt kp9) (Tryd.f9.body.getD .skip)
def pl10 : List (Nat × Plan) := [(35, (.fl 0 (.fl 1 (.fl 2 (.fl 3 (.fl 4 (.fl 5 (.fl 6 (.fl 7 (.fl 8 (.fl 9 (.fl 10 (.fl 11 (.fl 12 (.fl 13 (.fl 14 (.fl 15 (.fl 16 (.fl 17 (.fl 18 (.fl 19 (.fl 20 (.fl 21 (.fl 22 (.fl 23 (.fl 24 (.fl 25 (.fl 26 (.fl 27 (.fl 28 (.fl 29 (.fl 30 .done))))))))))))))))))))))))))))))))]
def kp10 : List (Nat × List Nat) := [(0, [0]), (1, [0, 2]), (2, [2]), (3, [0, 2]), (4, [2, 3, 4, 5]), (5, [2]), (6, [2, 3, 4]), (7, [2, 3, 4, 31, 32, 33]), (8, [2, 3, 4, 31, 32, 33]), (9, [2, 3, 4, 7, 31, 32, 33]), (10, [2, 3, 4, 7, 8, 9, 31, 32, 33]), (11, [2, 3, 4, 7, 8, 31, 32, 33]), (12, [2, 3, 4, 7, 8, 10, 31, 32, 33]), (13, [2, 3, 4, 7, 8, 10, 31, 32, 33, 48, 49, 50]), (14, [2, 3, 4, 7, 8, 10, 31, 32, 33, 48, 49, 50]), (15, [2, 3, 4, 7, 8, 10, 12, 31, 32, 33, 48, 49, 50]), (16, [2, 3, 4, 7, 8, 10, 12, 31, 32, 33, 48, 49, 50]), (17, [2, 3, 4, 7, 8, 10, 31, 32, 33, 48, 49, 50, 66, 67, 68]), (18, [2, 3, 4, 7, 8, 10, 31, 32, 33, 48, 49, 50, 66, 67, 68]), (19, [2, 3, 4, 7, 8, 10, 14, 31, 32, 33, 48, 49, 50, 66, 67, 68]), (20, [2, 3, 4, 7, 8, 10, 31, 32, 33, 48, 49, 50, 66, 67, 68]), (21, [2, 3, 4, 7, 8, 10, 31, 32, 33, 48, 49, 50]), (22, [2, 3, 4, 7, 8, 10, 31, 32, 33]), (23, [2]), (24, [2, 3, 4, 7, 8, 31, 32, 33]), (25, [2, 3, 4, 7, 8, 31, 32, 33]), (26, [2, 3, 4, 7, 8, 16, 31, 32, 33]), (27, [2, 3, 4, 7, 8, 31, 32, 33]), (28, [2, 3, 4, 7, 16, 31, 32, 33]), (29, [2]), (30, [2, 3, 4, 16, 31, 32, 33]), (31, [2, 3, 4, 31, 32, 33, 108, 109, 110]), (32, [108, 110]), (33, [18]), (38, [2, 3, 4, 31, 32, 33, 108, 109, 110]), (39, [2, 3, 4, 31, 32, 33]), (40, [2])]
noncomputable def s10 : SCode := toS (planAt pl10) (keepAt kp10) (Tryd.f10.body.getD .skip)
def pl17 : List (Nat × Plan) := []
def kp17 : List (Nat × List Nat) := [(0, []), (1, []), (2, [1]), (3, [1, 3]), (4, [3, 6]), (5, [6, 7, 8])]
noncomputable def s17 : SCode := toS (planAt pl17) (keepAt kp17) (Tryd.f17.body.getD .skip)
theorem fn17 : FnIs Tryd.prog 17 46 [.tmp 0] s17 := FnIs.mk' (planAt pl17) (keepAt kp17) (by kernel_rfl)
def pl18 : List (Nat × Plan) := []
def kp18 : List (Nat × List Nat) := [(0, [0]), (1, [0]), (2, [4, 5])]
noncomputable def s18 : SCode := toS (planAt pl18) (keepAt kp18) (Tryd.f18.body.getD .skip)
theorem fn18 : FnIs Tryd.prog 18 14 [.tmp 2, .tmp 3] s18 := FnIs.mk' (planAt pl18) (keepAt kp18) (by kernel_rfl)
def pl19 : List (Nat × Plan) := [(5, (.fl 0 (.fl 1 (.fl 2 (.fl 3 (.fl 4 (.fl 5 (.fl 6 (.fl 7 (.fl 8 (.fl 9 (.fl 10 (.fl 11 (.eff 12 [] .done)))))))))))))), (6, (.fl 0 (.fl 1 (.fl 2 (.fl 3 (.fl 4 (.fl 5 (.fl 6 (.eff 7 [5] (.eff 8 [] (.fl 9 (.fl 10 (.fl 11 (.eff 12 [] .done)))))))))))))), (24, (.fl 1 (.eff 0 [1] (.eff 2 [1] (.fl 3 .done)))))]
def kp19 : List (Nat × List Nat) := [(0, [0]), (1, [0, 2]), (2, [0, 2, 4]), (3, [0, 2, 4, 18, 19, 20]), (4, [0, 2, 4, 18, 19, 20]), (5, [0, 2, 4, 6, 18, 19, 20]), (6, [0, 2, 4, 6, 18, 19, 20]), (7, [0, 2, 4, 18, 19, 20]), (8, [0, 2, 4]), (9, [0, 2, 4, 49, 50, 51]), (10, [0, 2, 4, 49, 50, 51]), (11, [0, 2, 4, 8, 49, 50, 51]), (12, [0, 2, 4, 49, 50, 51]), (13, [0, 2, 4]), (14, [2, 4, 59, 60, 61]), (15, [2, 4, 59, 60, 61]), (16, [2, 4, 9, 10, 59, 60, 61]), (17, [2, 4, 59, 60, 61]), (18, [2, 4]), (19, [2, 4, 75, 76, 77]), (20, [2, 4, 75, 76, 77]), (21, [2, 4, 12, 75, 76, 77]), (22, [2, 4, 75, 76, 77]), (23, [2, 4]), (24, [2]), (25, [2, 4])]
noncomputable def s19 : SCode := toS (planAt pl19) (keepAt kp19) (Tryd.f19.body.getD .skip)
theorem fn19 : FnIs Tryd.prog 19 99 [.cell 2 27, .tmp 3] s19 := FnIs.mk' (planAt pl19) (keepAt kp19) (by kernel_rfl)
def pl23 : List (Nat × Plan) := [(9, (.fl 0 (.fl 1 (.fl 2 (.fl 3 (.fl 4 (.fl 5 .done)))))))]
def kp23 : List (Nat × List Nat) := [(0, [0]), (1, [0]), (2, [4]), (3, [4, 5]), (4, [4, 5]), (5, [4, 5]), (6, [4, 5]), (7, [4, 5]), (8, [4, 5]), (9, [4]), (10, [5])]
noncomputable def s23 : SCode := toS (planAt pl23) (keepAt kp23) (Tryd.f23.body.getD .skip)
theorem fn23 : FnIs Tryd.prog 23 32 [.tmp 2, .tmp 3] s23 := FnIs.mk' (planAt pl23) (keepAt kp23) (by kernel_rfl)
def pl24 : List (Nat × Plan) := []
def kp24 : List (Nat × List Nat) := [(0, [0]), (1, [1])]
noncomputable def s24 : SCode := toS (planAt pl24) (keepAt kp24) (Tryd.f24.body.getD .skip)
theorem fn24 : FnIs Tryd.prog 24 6 [.tmp 2] s24 := FnIs.mk' (planAt pl24) (keepAt kp24) (by kernel_rfl)
def pl38 : List (Nat × Plan) := []
def kp38 : List (Nat × List Nat) := [(0, [0, 1]), (1, [2, 3])]
noncomputable def s38 : SCode := toS (planAt pl38) (keepAt kp38) (Tryd.f38.body.getD .skip)
theorem fn38 : FnIs Tryd.prog 38 9 [.tmp 4] s38 := FnIs.mk' (planAt pl38) (keepAt kp38) (by kernel_rfl)
def pl50 : List (Nat × Plan) := []
def kp50 : List (Nat × List Nat) := [(0, []), (1, []), (2, [1]), (3, [1, 2]), (4, [1, 2, 8, 9, 10]), (5, [1, 2, 8, 9, 10]), (6, [1, 2, 4, 8, 9, 10]), (7, [1, 2, 8, 9, 10]), (8, [1, 2]), (9, [1, 2, 28, 29, 30]), (10, [1, 2, 28, 29, 30]), (11, [1, 2, 6, 28, 29, 30]), (12, [1, 2, 28, 29, 30]), (13, [2])]
noncomputable def s50 : SCode := toS (planAt pl50) (keepAt kp50) (Tryd.f50.body.getD .skip)
theorem fn50 : FnIs Tryd.prog 50 48 [.tmp 0] s50 := FnIs.mk' (planAt pl50) (keepAt kp50) (by kernel_rfl)
def pl51 : List (Nat × Plan) := []
def kp51 : List (Nat × List Nat) := [(0, [0, 1]), (1, [0, 3]), (2, [0, 3, 5]), (3, [0, 3]), (4, [0, 3, 5]), (5, [0, 3])]
noncomputable def s51 : SCode := toS (planAt pl51) (keepAt kp51) (Tryd.f51.body.getD .skip)
theorem fn51 : FnIs Tryd.prog 51 16 [] s51 := FnIs.mk' (planAt pl51) (keepAt kp51) (by kernel_rfl)
def pl52 : List (Nat × Plan) := [(21, (.fl 0 (.fl 1 (.fl 2 (.fl 3 (.fl 4 (.fl 5 (.eff 6 [] (.fl 7 (.eff 8 [] .done)))))))))), (22, (.fl 0 (.fl 1 (.fl 2 (.fl 3 (.fl 4 (.fl 5 (.fl 6 (.fl 8 (.fl 9 (.eff 7 [4, 9] (.eff 10 [4] (.eff 11 [4] (.eff 12 [] (.fl 13 (.fl 14 (.eff 15 [] .done)))))))))))))))))]
def kp52 : List (Nat × List Nat) := [(0, [0, 1, 2]), (1, [0, 1, 5]), (2, [0, 1, 5, 17]), (3, [0, 5]), (4, [0, 5, 21, 22, 23]), (5, [0, 5, 21, 22, 23]), (6, [0, 5, 7, 21, 22, 23]), (7, [0, 5, 21, 22, 23, 28, 29, 30]), (8, [0, 5, 21, 22, 23, 28, 29, 30]), (9, [0, 5, 9, 21, 22, 23, 28, 29, 30]), (10, [0, 5, 21, 22, 23, 28, 29, 30]), (11, [0, 5, 21, 22, 23]), (12, [0, 1, 5, 17]), (13, [0, 5]), (14, [0, 44, 45, 46]), (15, [0, 44, 45, 46]), (16, [0, 11, 44, 45, 46]), (17, [0, 44, 45, 46]), (18, [0, 1, 5, 17]), (19, [0, 5]), (20, [0, 5, 12]), (21, [0, 5, 12]), (22, [5, 12]), (23, [0, 1, 5, 17]), (24, [0, 1, 5]), (25, [0, 1, 5, 13]), (26, [0, 1, 5, 13]), (27, [0, 5]), (28, [0, 5, 113, 114, 115]), (29, [0, 5, 113, 114, 115]), (30, [0, 5, 15, 113, 114, 115]), (31, [0, 5, 113, 114, 115]), (32, [0, 5])]
noncomputable def s52 : SCode := toS (planAt pl52) (keepAt kp52) (Tryd.f52.body.getD .skip)
theorem fn52 : FnIs Tryd.prog 52 127 [] s52 := FnIs.mk' (planAt pl52) (keepAt kp52) (by kernel_rfl)
def pl53 : List (Nat × Plan) := []
def kp53 : List (Nat × List Nat) := [(0, [0, 1]), (1, [0])]
noncomputable def s53 : SCode := toS (planAt pl53) (keepAt kp53) (Tryd.f53.body.getD .skip)
theorem fn53 : FnIs Tryd.prog 53 9 [] s53 := FnIs.mk' (planAt pl53) (keepAt kp53) (by kernel_rfl)
def pl54 : List (Nat × Plan) := []
def kp54 : List (Nat × List Nat) := [(0, []), (1, []), (2, [1]), (3, [1, 7, 8, 9]), (4, [1, 7, 8, 9]), (5, [1, 2, 3, 7, 8, 9]), (6, [1, 2, 4, 7, 8, 9]), (7, [1, 4, 7, 8, 9]), (8, [1, 4, 7, 8, 9]), (9, [1, 4, 7, 8, 9]), (10, [1, 4, 5, 7, 8, 9]), (11, [1, 4, 5, 7, 8, 9]), (12, [1, 4, 5, 7, 8, 9]), (13, [1, 4, 7, 8, 9]), (14, [1, 7, 8, 9]), (15, [1])]
noncomputable def s54 : SCode := toS (planAt pl54) (keepAt kp54) (Tryd.f54.body.getD .skip)
theorem fn54 : FnIs Tryd.prog 54 47 [.tmp 0] s54 := FnIs.mk' (planAt pl54) (keepAt kp54) (by kernel_rfl)
def pl58 : List (Nat × Plan) := []
def kp58 : List (Nat × List Nat) := [(0, [0]), (1, [0]), (2, [3, 4])]
noncomputable def s58 : SCode := toS (planAt pl58) (keepAt kp58) (Tryd.f58.body.getD .skip)
theorem fn58 : FnIs Tryd.prog 58 14 [.tmp 2] s58 := FnIs.mk' (planAt pl58) (keepAt kp58) (by kernel_rfl)
def pl59 : List (Nat × Plan) := [(1, (.fl 0 (.fl 1 (.fl 2 (.fl 3 (.fl 4 (.fl 5 (.fl 6 (.fl 7 (.fl 8 (.fl 9 (.fl 10 (.fl 11 (.fl 12 (.fl 13 (.fl 14 (.fl 15 (.fl 16 (.fl 17 .done)))))))))))))))))))]
def kp59 : List (Nat × List Nat) := [(0, [0]), (1, [0])]
noncomputable def s59 : SCode := toS (planAt pl59) (keepAt kp59) (Tryd.f59.body.getD .skip)
theorem fn59 : FnIs Tryd.prog 59 20 [.tmp 2] s59 := FnIs.mk' (planAt pl59) (keepAt kp59) (by kernel_rfl)
def pl60 : List (Nat × Plan) := []
def kp60 : List (Nat × List Nat) := [(0, [0, 1]), (1, [0, 1])]
noncomputable def s60 : SCode := toS (planAt pl60) (keepAt kp60) (Tryd.f60.body.getD .skip)
theorem fn60 : FnIs Tryd.prog 60 13 [] s60 := FnIs.mk' (planAt pl60) (keepAt kp60) (by kernel_rfl)
def pl61 : List (Nat × Plan) := [(13, (.fl 0 (.fl 1 (.fl 2 (.eff 3 [1] (.eff 4 [1] (.eff 5 [] (.fl 6 (.eff 7 [] .done))))))))), (15, (.fl 0 (.fl 1 (.fl 2 (.eff 3 [1] (.eff 4 [1] (.eff 5 [] (.fl 6 (.eff 7 [] .done))))))))), (17, (.fl 0 (.fl 1 (.fl 2 (.eff 3 [1] (.eff 4 [1] (.eff 5 [] (.fl 6 (.eff 7 [] .done))))))))), (22, (.fl 0 (.fl 1 (.fl 2 (.eff 3 [1] (.eff 4 [1] (.eff 5 [] (.fl 6 (.eff 7 [] .done))))))))), (5, (.fl 0 (.fl 1 (.fl 2 (.eff 3 [1] (.eff 4 [1] (.eff 5 [] (.fl 6 (.eff 7 [] .done)))))))))]
def kp61 : List (Nat × List Nat) := [(0, [0]), (1, [0, 2]), (2, [0, 2, 3]), (3, [0, 2, 3]), (4, [0, 2, 3]), (5, [0, 2, 3]), (6, [0, 2, 3]), (7, [0, 2, 3]), (8, [0, 2, 3]), (9, [0, 2, 3]), (10, [0, 2, 3]), (11, [0, 2, 3]), (12, [0, 2, 3]), (13, [0, 2, 3]), (14, [0, 2, 3]), (15, [0, 2, 3]), (16, [0, 2, 3]), (17, [0, 2, 3]), (18, [0, 2, 3]), (19, [0, 2, 3]), (20, [0, 2, 3]), (21, [0, 2, 3]), (22, [0, 2, 3]), (23, [0, 2, 3]), (24, [0, 2, 3]), (25, [0, 2, 3]), (26, [0, 2, 3]), (27, [0, 2, 3]), (28, [0, 2, 3, 4]), (29, [0, 2, 3, 4]), (30, [0, 2, 3, 4]), (31, [0, 2, 3]), (32, [0, 2, 3]), (33, [0, 2, 3]), (34, [2, 3]), (35, [0, 2, 3]), (36, [2, 3]), (37, [0, 2, 3]), (38, [2, 3]), (39, [0, 2, 3]), (40, [2, 3]), (41, [2, 3])]
noncomputable def s61 : SCode := toS (planAt pl61) (keepAt kp61) (Tryd.f61.body.getD .skip)
theorem fn61 : FnIs Tryd.prog 61 158 [.cell 2 68] s61 := FnIs.mk' (planAt pl61) (keepAt kp61) (by kernel_rfl)
def pl62 : List (Nat × Plan) := []
def kp62 : List (Nat × List Nat) := [(0, [0, 1]), (1, [0])]
noncomputable def s62 : SCode := toS (planAt pl62) (keepAt kp62) (Tryd.f62.body.getD .skip)
theorem fn62 : FnIs Tryd.prog 62 17 [] s62 := FnIs.mk' (planAt pl62) (keepAt kp62) (by kernel_rfl)
def pl63 : List (Nat × Plan) := [(1, (.fl 0 (.fl 1 (.fl 2 (.fl 3 (.fl 4 (.fl 5 (.fl 6 (.fl 7 (.fl 8 (.fl 9 (.fl 10 (.fl 11 (.fl 12 (.fl 13 (.fl 14 (.fl 15 (.fl 16 .done))))))))))))))))))]
def kp63 : List (Nat × List Nat) := [(0, [0]), (1, [0]), (2, [0]), (3, [0])]
noncomputable def s63 : SCode := toS (planAt pl63) (keepAt kp63) (Tryd.f63.body.getD .skip)
theorem fn63 : FnIs Tryd.prog 63 27 [.tmp 2] s63 := FnIs.mk' (planAt pl63) (keepAt kp63) (by kernel_rfl)
def pl64 : List (Nat × Plan) := []
def kp64 : List (Nat × List Nat) := [(0, [0, 1]), (1, [0, 1])]
noncomputable def s64 : SCode := toS (planAt pl64) (keepAt kp64) (Tryd.f64.body.getD .skip)
theorem fn64 : FnIs Tryd.prog 64 9 [.tmp 4] s64 := FnIs.mk' (planAt pl64) (keepAt kp64) (by kernel_rfl)
def pl65 : List (Nat × Plan) := []
def kp65 : List (Nat × List Nat) := [(0, [0, 1]), (1, [1, 2])]
noncomputable def s65 : SCode := toS (planAt pl65) (keepAt kp65) (Tryd.f65.body.getD .skip)
theorem fn65 : FnIs Tryd.prog 65 8 [.tmp 3] s65 := FnIs.mk' (planAt pl65) (keepAt kp65) (by kernel_rfl)
def pl82 : List (Nat × Plan) := []
def kp82 : List (Nat × List Nat) := [(0, [0, 1]), (1, [0, 1]), (2, [0, 1, 7, 8]), (3, [0, 1, 7, 8]), (4, [0, 1, 5, 7, 8]), (5, [5]), (6, [0, 1, 7, 8]), (7, [])]
noncomputable def s82 : SCode := toS (planAt pl82) (keepAt kp82) (Tryd.f82.body.getD .skip)
theorem fn82 : FnIs Tryd.prog 82 19 [.tmp 4] s82 := FnIs.mk' (planAt pl82) (keepAt kp82) (by kernel_rfl)
def pl83 : List (Nat × Plan) := []
def kp83 : List (Nat × List Nat) := [(0, [0, 1]), (1, [1, 2])]
noncomputable def s83 : SCode := toS (planAt pl83) (keepAt kp83) (Tryd.f83.body.getD .skip)
theorem fn83 : FnIs Tryd.prog 83 8 [.tmp 3] s83 := FnIs.mk' (planAt pl83) (keepAt kp83) (by kernel_rfl)
def pl84 : List (Nat × Plan) := [(6, (.fl 0 (.fl 1 (.fl 2 (.fl 3 (.fl 4 (.fl 5 (.fl 6 (.fl 7 (.fl 8 .done))))))))))]
def kp84 : List (Nat × List Nat) := [(0, [0, 1]), (1, [0, 1]), (2, []), (3, [0, 1]), (4, [0, 1, 12, 13]), (5, [0, 1, 12, 13]), (6, [0, 1, 5, 12, 13]), (7, []), (8, [0, 1, 12, 13]), (9, [])]
noncomputable def s84 : SCode := toS (planAt pl84) (keepAt kp84) (Tryd.f84.body.getD .skip)
theorem fn84 : FnIs Tryd.prog 84 26 [.tmp 4] s84 := FnIs.mk' (planAt pl84) (keepAt kp84) (by kernel_rfl)
def pl95 : List (Nat × Plan) := [(1, (.fl 0 (.fl 1 (.fl 2 (.fl 3 (.fl 4 (.fl 5 (.eff 6 [] (.fl 7 (.fl 8 (.fl 9 (.fl 10 (.fl 11 .done))))))))))))), (3, (.fl 0 (.fl 1 (.fl 2 (.fl 3 (.fl 4 (.fl 5 (.fl 6 (.fl 7 (.fl 8 (.eff 9 [] .done))))))))))), (11, (.fl 0 (.fl 1 (.fl 2 (.fl 3 (.fl 4 (.fl 5 (.fl 6 (.eff 7 [5] (.eff 8 [] (.fl 9 (.fl 10 (.fl 11 (.eff 12 [] .done)))))))))))))), (16, (.fl 0 (.fl 1 (.fl 2 (.fl 3 (.fl 4 (.eff 5 [] (.fl 6 (.fl 7 (.fl 8 (.fl 9 (.fl 10 .done)))))))))))), (18, (.fl 0 (.fl 1 (.fl 2 (.fl 3 (.fl 4 (.fl 5 (.fl 6 (.fl 7 (.fl 8 (.fl 9 (.fl 10 (.eff 11 [] .done))))))))))))), (19, (.fl 0 (.fl 1 (.fl 2 (.fl 3 (.fl 4 (.fl 5 (.fl 6 (.fl 7 (.fl 8 (.fl 9 (.fl 10 (.fl 12 (.fl 13 (.fl 15 (.eff 11 [5, 6, 8, 13] (.eff 14 [5, 6, 8] (.eff 16 [5] (.eff 17 [5] (.eff 18 [] (.fl 19 (.fl 20 (.fl 21 (.eff 22 [] .done))))))))))))))))))))))))]
def kp95 : List (Nat × List Nat) := [(0, [0, 1]), (1, [0, 3]), (2, [0, 3, 5]), (3, [0, 3]), (4, [0, 3]), (5, [0, 3, 6]), (6, [0, 3, 6, 39, 40, 41]), (7, [0, 3, 6, 39, 40, 41]), (8, [0, 3, 6, 8, 39, 40, 41]), (9, [0, 3, 6, 8, 39, 40, 41]), (10, [0, 3, 6, 39, 40, 41]), (11, [0, 3]), (12, [0, 3]), (13, [0, 3, 67, 68, 69]), (14, [0, 3, 67, 68, 69]), (15, [0, 3, 9, 10, 67, 68, 69]), (16, [0, 3, 9, 10, 11, 67, 68, 69]), (17, [0, 3, 9, 10, 11, 13, 67, 68, 69]), (18, [0, 3, 9, 10, 11, 67, 68, 69]), (19, [0, 3, 9, 10, 11, 67, 68, 69]), (20, [0, 3, 67, 68, 69])]
noncomputable def s95 : SCode := toS (planAt pl95) (keepAt kp95) (Tryd.f95.body.getD .skip)
theorem fn95 : FnIs Tryd.prog 95 127 [] s95 := FnIs.mk' (planAt pl95) (keepAt kp95) (by kernel_rfl)
def pl96 : List (Nat × Plan) := [(2, (.fl 0 (.fl 1 (.fl 2 (.fl 3 (.fl 4 (.eff 5 [] (.fl 6 (.fl 7 (.fl 8 (.fl 9 (.fl 10 .done)))))))))))), (4, (.fl 0 (.fl 1 (.fl 2 (.fl 3 (.fl 4 (.fl 5 (.fl 6 (.fl 7 (.fl 8 (.fl 9 (.fl 10 (.eff 11 [] .done))))))))))))), (5, (.fl 0 (.fl 1 (.fl 2 (.fl 3 (.fl 4 (.fl 5 (.fl 6 (.fl 7 (.fl 8 (.eff 9 [5, 6] (.eff 10 [5] (.eff 11 [5] (.eff 12 [] (.fl 13 (.fl 14 (.fl 15 (.eff 16 [] .done))))))))))))))))))]
def kp96 : List (Nat × List Nat) := [(0, [0, 1]), (1, [0, 3]), (2, [0, 3, 4]), (3, [0, 3, 4, 6]), (4, [0, 3, 4]), (5, [0, 3, 4])]
noncomputable def s96 : SCode := toS (planAt pl96) (keepAt kp96) (Tryd.f96.body.getD .skip)
theorem fn96 : FnIs Tryd.prog 96 53 [] s96 := FnIs.mk' (planAt pl96) (keepAt kp96) (by kernel_rfl)
def pl97 : List (Nat × Plan) := [(5, (.fl 0 (.fl 1 (.fl 2 (.fl 3 (.fl 4 (.fl 5 (.eff 6 [] (.fl 7 (.fl 8 (.fl 9 (.fl 10 (.fl 11 .done)))))))))))))]
def kp97 : List (Nat × List Nat) := [(0, [0, 1, 2, 3]), (1, [0, 2, 3, 5]), (2, [0, 2, 3, 5]), (3, [0, 2, 3, 5]), (4, [0, 5]), (5, [0, 2, 3, 5]), (6, [0, 2, 3, 5, 8, 9]), (7, [0, 2, 3, 5]), (8, [0, 2, 3, 54, 55, 56]), (9, [0, 2, 3, 54, 55, 56]), (10, [0, 2, 3, 11, 54, 55, 56]), (11, [0, 2, 3, 54, 55, 56])]
noncomputable def s97 : SCode := toS (planAt pl97) (keepAt kp97) (Tryd.f97.body.getD .skip)
theorem fn97 : FnIs Tryd.prog 97 66 [] s97 := FnIs.mk' (planAt pl97) (keepAt kp97) (by kernel_rfl)
def pl98 : List (Nat × Plan) := [(1, (.fl 0 (.fl 1 (.fl 2 (.fl 3 (.fl 4 (.eff 5 [] (.fl 6 (.fl 7 (.fl 8 (.fl 9 (.fl 10 .done))))))))))))]
def kp98 : List (Nat × List Nat) := [(0, [0, 1]), (1, [0, 3]), (2, [0, 3, 5, 6]), (3, [0, 5]), (4, []), (5, [0, 5])]
noncomputable def s98 : SCode := toS (planAt pl98) (keepAt kp98) (Tryd.f98.body.getD .skip)
theorem fn98 : FnIs Tryd.prog 98 36 [.tmp 4] s98 := FnIs.mk' (planAt pl98) (keepAt kp98) (by kernel_rfl)
def pl99 : List (Nat × Plan) := []
def kp99 : List (Nat × List Nat) := [(0, [0]), (1, [0]), (2, []), (3, [0])]
noncomputable def s99 : SCode := toS (planAt pl99) (keepAt kp99) (Tryd.f99.body.getD .skip)
theorem fn99 : FnIs Tryd.prog 99 8 [.tmp 2] s99 := FnIs.mk' (planAt pl99) (keepAt kp99) (by kernel_rfl)
def pl100 : List (Nat × Plan) := [(2, (.fl 0 (.fl 1 (.fl 2 (.fl 3 (.fl 4 (.fl 5 (.fl 6 (.fl 7 (.fl 8 (.eff 9 [3] (.eff 10 [] (.fl 11 (.fl 12 (.fl 13 (.fl 14 (.fl 15 .done)))))))))))))))))]
def kp100 : List (Nat × List Nat) := [(0, [0, 1]), (1, [0, 3]), (2, [0, 3]), (3, [0, 3, 5]), (4, [0, 3]), (5, [0, 29, 30, 31]), (6, [0, 29, 30, 31]), (7, [0, 7, 29, 30, 31]), (8, [0, 29, 30, 31])]
noncomputable def s100 : SCode := toS (planAt pl100) (keepAt kp100) (Tryd.f100.body.getD .skip)
theorem fn100 : FnIs Tryd.prog 100 39 [] s100 := FnIs.mk' (planAt pl100) (keepAt kp100) (by kernel_rfl)
def pl101 : List (Nat × Plan) := [(3, (.fl 0 (.fl 1 (.fl 2 (.fl 3 (.fl 4 (.fl 5 (.fl 6 (.fl 7 (.fl 8 (.eff 9 [3] (.eff 10 [] (.fl 11 (.fl 12 (.fl 13 (.fl 14 (.fl 15 .done)))))))))))))))))]
def kp101 : List (Nat × List Nat) := [(0, [0, 1]), (1, [0, 3]), (2, [0, 3, 11]), (3, [0, 3]), (4, [0, 3, 5]), (5, [0, 3, 11]), (6, [0, 3]), (7, [0, 3]), (8, [0, 3, 11]), (9, [0, 3]), (10, [0, 3]), (11, [0, 3, 48, 49, 50]), (12, [0, 3, 48, 49, 50]), (13, [0, 3, 7, 48, 49, 50]), (14, [0, 3, 48, 49, 50]), (15, [0, 3]), (16, [0, 59, 60, 61]), (17, [0, 59, 60, 61]), (18, [0, 9, 59, 60, 61]), (19, [0, 59, 60, 61])]
noncomputable def s101 : SCode := toS (planAt pl101) (keepAt kp101) (Tryd.f101.body.getD .skip)
theorem fn101 : FnIs Tryd.prog 101 69 [] s101 := FnIs.mk' (planAt pl101) (keepAt kp101) (by kernel_rfl)
def pl111 : List (Nat × Plan) := []
def kp111 : List (Nat × List Nat) := [(0, [0]), (1, [0]), (2, []), (3, [0]), (4, [5, 6]), (5, []), (6, [5])]
noncomputable def s111 : SCode := toS (planAt pl111) (keepAt kp111) (Tryd.f111.body.getD .skip)
theorem fn111 : FnIs Tryd.prog 111 19 [.tmp 2, .tmp 3] s111 := FnIs.mk' (planAt pl111) (keepAt kp111) (by kernel_rfl)
def pl112 : List (Nat × Plan) := []
def kp112 : List (Nat × List Nat) := [(0, [0, 1]), (1, [0, 1]), (2, [0]), (3, []), (4, [])]
noncomputable def s112 : SCode := toS (planAt pl112) (keepAt kp112) (Tryd.f112.body.getD .skip)
theorem fn112 : FnIs Tryd.prog 112 15 [.tmp 4] s112 := FnIs.mk' (planAt pl112) (keepAt kp112) (by kernel_rfl)
def pl113 : List (Nat × Plan) := [(1, (.fl 0 (.eff 1 [] (.fl 2 (.fl 3 (.fl 4 (.fl 5 (.fl 6 (.fl 7 (.fl 8 (.fl 9 (.fl 10 (.fl 11 (.fl 12 (.fl 13 (.fl 14 (.fl 15 (.fl 16 (.fl 17 (.fl 18 (.fl 19 (.fl 20 (.fl 21 (.fl 22 (.fl 23 (.fl 24 (.fl 25 (.fl 26 (.fl 27 (.fl 28 (.fl 29 (.fl 30 (.fl 31 (.eff 32 [] (.fl 33 (.fl 34 .done)))))))))))))))))))))))))))))))))))), (5, (.fl 0 (.fl 1 (.fl 2 (.fl 3 (.fl 4 (.fl 5 (.fl 6 (.fl 7 (.fl 8 (.fl 9 (.fl 10 (.fl 11 (.fl 12 .done))))))))))))))]
def kp113 : List (Nat × List Nat) := [(0, [0, 1]), (1, [0, 1]), (2, [0]), (3, []), (4, [0]), (5, [0])]
noncomputable def s113 : SCode := toS (planAt pl113) (keepAt kp113) (Tryd.f113.body.getD .skip)
theorem fn113 : FnIs Tryd.prog 113 61 [.tmp 4] s113 := FnIs.mk' (planAt pl113) (keepAt kp113) (by kernel_rfl)
def pl114 : List (Nat × Plan) := []
def kp114 : List (Nat × List Nat) := [(0, [0, 1]), (1, [0, 1]), (2, [0, 1]), (3, []), (4, [0, 1]), (5, []), (6, [0, 1]), (7, [0, 1]), (8, [0]), (9, [0])]
noncomputable def s114 : SCode := toS (planAt pl114) (keepAt kp114) (Tryd.f114.body.getD .skip)
theorem fn114 : FnIs Tryd.prog 114 35 [.tmp 4] s114 := FnIs.mk' (planAt pl114) (keepAt kp114) (by kernel_rfl)
def pl115 : List (Nat × Plan) := [(3, (.fl 0 (.fl 1 (.fl 2 (.eff 3 [1] (.eff 4 [1] (.eff 5 [] (.fl 6 (.eff 7 [] .done)))))))))]
def kp115 : List (Nat × List Nat) := [(0, [0]), (1, [0, 2]), (2, [0, 2, 3]), (3, [0, 2, 3]), (4, [2, 3])]
noncomputable def s115 : SCode := toS (planAt pl115) (keepAt kp115) (Tryd.f115.body.getD .skip)
theorem fn115 : FnIs Tryd.prog 115 27 [.cell 2 114] s115 := FnIs.mk' (planAt pl115) (keepAt kp115) (by kernel_rfl)
def pl116 : List (Nat × Plan) := [(2, (.fl 0 (.eff 1 [] (.fl 2 (.fl 3 (.fl 4 (.fl 5 (.fl 6 (.fl 7 (.fl 8 (.fl 9 (.fl 10 (.fl 11 (.fl 12 (.fl 13 (.fl 14 (.fl 15 (.fl 16 .done)))))))))))))))))), (4, (.fl 0 (.fl 1 (.fl 2 (.fl 3 (.fl 4 (.fl 5 (.fl 6 (.fl 7 (.fl 8 (.fl 9 (.fl 10 (.fl 11 (.eff 12 [] (.eff 13 [] .done))))))))))))))), (9, (.fl 0 (.fl 1 (.fl 2 (.fl 3 (.fl 4 (.eff 5 [1] (.eff 6 [1] (.eff 7 [] (.fl 8 (.eff 9 [] .done)))))))))))]
def kp116 : List (Nat × List Nat) := [(0, [0, 1]), (1, [0, 1, 4]), (2, [0, 1, 4]), (3, [0, 4]), (4, [0, 4]), (5, [0, 1, 4]), (6, [4]), (7, [0, 1, 4]), (8, [0, 1, 4, 5]), (9, [0, 1, 4, 5]), (10, [4, 5])]
noncomputable def s116 : SCode := toS (planAt pl116) (keepAt kp116) (Tryd.f116.body.getD .skip)
theorem fn116 : FnIs Tryd.prog 116 74 [.cell 4 135] s116 := FnIs.mk' (planAt pl116) (keepAt kp116) (by kernel_rfl)
def pl117 : List (Nat × Plan) := [(2, (.fl 0 (.eff 1 [] (.fl 2 (.fl 3 (.fl 4 (.fl 5 (.fl 6 (.fl 7 (.fl 8 (.fl 9 (.fl 10 (.fl 11 (.fl 12 (.fl 13 (.fl 14 (.fl 15 (.fl 16 .done)))))))))))))))))), (4, (.fl 0 (.fl 1 (.fl 2 (.fl 3 (.fl 4 (.fl 5 (.fl 6 (.fl 7 (.fl 8 (.fl 9 (.fl 10 (.fl 11 (.eff 12 [] (.eff 13 [] .done))))))))))))))), (5, (.fl 0 (.eff 1 [] (.fl 2 (.fl 3 (.fl 4 (.fl 5 (.fl 6 (.fl 7 (.fl 8 (.fl 9 (.fl 10 (.fl 11 (.fl 12 (.fl 13 (.fl 14 (.fl 15 (.fl 16 .done)))))))))))))))))), (7, (.fl 0 (.fl 1 (.fl 2 (.fl 3 (.fl 4 (.fl 5 (.fl 6 (.fl 7 (.fl 8 (.fl 9 (.fl 10 (.fl 11 (.eff 12 [] (.eff 13 [] .done))))))))))))))), (10, (.fl 0 (.fl 1 (.fl 2 (.fl 3 (.fl 4 (.eff 5 [1] (.eff 6 [1] (.eff 7 [] (.fl 8 (.eff 9 [] .done)))))))))))]
def kp117 : List (Nat × List Nat) := [(0, [0, 1]), (1, [0, 1, 4]), (2, [0, 1, 4]), (3, [0, 4]), (4, [0, 4]), (5, [0, 1, 4]), (6, [0, 4]), (7, [0, 4]), (8, [0, 1, 4]), (9, [0, 1, 4, 5]), (10, [0, 1, 4, 5]), (11, [4, 5])]
noncomputable def s117 : SCode := toS (planAt pl117) (keepAt kp117) (Tryd.f117.body.getD .skip)
theorem fn117 : FnIs Tryd.prog 117 108 [.cell 4 63] s117 := FnIs.mk' (planAt pl117) (keepAt kp117) (by kernel_rfl)
def pl118 : List (Nat × Plan) := []
def kp118 : List (Nat × List Nat) := [(0, [0, 1]), (1, [0, 1, 4]), (2, [0, 1, 4, 5]), (3, [0, 1, 4, 5]), (4, [0, 1, 4, 5, 6]), (5, [0, 1, 4, 5, 6]), (6, [0, 1, 4, 5, 6]), (7, [0, 1, 4, 5, 6]), (8, [0, 1, 4, 5, 6]), (9, [0, 1, 4, 5]), (10, [4, 5]), (11, [4, 5]), (12, [4, 5])]
noncomputable def s118 : SCode := toS (planAt pl118) (keepAt kp118) (Tryd.f118.body.getD .skip)
theorem fn118 : FnIs Tryd.prog 118 50 [.cell 4 66] s118 := FnIs.mk' (planAt pl118) (keepAt kp118) (by kernel_rfl)
def pl119 : List (Nat × Plan) := []
def kp119 : List (Nat × List Nat) := [(0, [0, 1]), (1, [0, 1]), (2, [0, 1, 7, 8]), (3, [0, 1, 7, 8]), (4, [0, 1, 5, 7, 8]), (5, [5]), (6, [0, 1, 7, 8]), (7, [])]
noncomputable def s119 : SCode := toS (planAt pl119) (keepAt kp119) (Tryd.f119.body.getD .skip)
theorem fn119 : FnIs Tryd.prog 119 19 [.tmp 4] s119 := FnIs.mk' (planAt pl119) (keepAt kp119) (by kernel_rfl)
def pl133 : List (Nat × Plan) := []
def kp133 : List (Nat × List Nat) := [(0, [0]), (1, [0]), (2, []), (3, [0])]
noncomputable def s133 : SCode := toS (planAt pl133) (keepAt kp133) (Tryd.f133.body.getD .skip)
theorem fn133 : FnIs Tryd.prog 133 8 [.tmp 2] s133 := FnIs.mk' (planAt pl133) (keepAt kp133) (by kernel_rfl)
def pl134 : List (Nat × Plan) := []
def kp134 : List (Nat × List Nat) := [(0, [0]), (1, [0]), (2, []), (3, [0])]
noncomputable def s134 : SCode := toS (planAt pl134) (keepAt kp134) (Tryd.f134.body.getD .skip)
theorem fn134 : FnIs Tryd.prog 134 8 [.tmp 2] s134 := FnIs.mk' (planAt pl134) (keepAt kp134) (by kernel_rfl)
def pl135 : List (Nat × Plan) := []
def kp135 : List (Nat × List Nat) := [(0, [0, 1]), (1, [0, 1])]
noncomputable def s135 : SCode := toS (planAt pl135) (keepAt kp135) (Tryd.f135.body.getD .skip)
theorem fn135 : FnIs Tryd.prog 135 9 [.tmp 4] s135 := FnIs.mk' (planAt pl135) (keepAt kp135) (by kernel_rfl)
def pl137 : List (Nat × Plan) := [(9, (.fl 0 (.fl 1 (.fl 4 (.fl 5 (.both (.eff 2 [5] (.both (.eff 3 [5] (.eff 6 [] (.eff 7 [] (.eff 8 [] (.eff 9 [] .done))))) (.eff 6 [] (.eff 3 [5] (.eff 7 [] (.eff 8 [] (.eff 9 [] .done))))))) (.eff 6 [] (.eff 2 [5] (.eff 3 [5] (.eff 7 [] (.eff 8 [] (.eff 9 [] .done))))))))))))]
def kp137 : List (Nat × List Nat) := [(0, [0]), (1, [0]), (2, [0, 5, 6]), (3, [0, 5, 6, 7]), (4, [0, 5, 6, 7, 8]), (5, [0, 5, 6, 7, 8]), (6, [0, 5, 6, 7, 8]), (7, [0, 5, 6, 7, 8, 10, 11]), (8, [5, 6]), (9, [0, 5, 6, 7, 8, 10]), (10, [0, 5, 6, 7, 8, 10]), (11, [0, 5, 6, 7, 8, 9]), (12, [0, 5, 6, 8, 9]), (13, [0, 5, 6, 7, 8]), (14, [0, 5, 6, 7, 8, 9]), (15, [0, 5, 6, 7, 8]), (16, [0, 5, 6, 7, 8, 9]), (17, [0, 5, 6, 8]), (18, [0, 5, 6, 7, 8]), (19, [5, 6])]
noncomputable def s137 : SCode := toS (planAt pl137) (keepAt kp137) (Tryd.f137.body.getD .skip)
theorem fn137 : FnIs Tryd.prog 137 74 [.tmp 2, .tmp 3, .tmp 4] s137 := FnIs.mk' (planAt pl137) (keepAt kp137) (by kernel_rfl)
def pl138 : List (Nat × Plan) := [(1, (.fl 0 (.eff 1 [] (.fl 2 (.fl 3 (.fl 4 (.fl 5 (.fl 6 (.fl 7 (.fl 8 (.fl 9 (.fl 10 (.fl 11 (.fl 12 (.fl 13 (.fl 14 (.fl 15 (.fl 16 (.fl 17 (.fl 18 (.fl 19 (.fl 20 (.fl 21 (.fl 22 (.fl 23 (.fl 24 (.fl 25 (.fl 26 (.fl 27 (.fl 28 (.fl 29 (.fl 30 (.fl 31 (.fl 32 (.fl 33 (.fl 34 (.fl 35 (.fl 36 (.fl 37 (.fl 38 (.fl 39 (.fl 40 (.fl 41 (.fl 42 (.fl 43 (.fl 44 (.fl 45 (.fl 46 .done))))))))))))))))))))))))))))))))))))))))))))))))]
def kp138 : List (Nat × List Nat) := [(0, [0, 1]), (1, [0, 1])]
noncomputable def s138 : SCode := toS (planAt pl138) (keepAt kp138) (Tryd.f138.body.getD .skip)
theorem fn138 : FnIs Tryd.prog 138 51 [.tmp 4] s138 := FnIs.mk' (planAt pl138) (keepAt kp138) (by kernel_rfl)
def pl139 : List (Nat × Plan) := []
def kp139 : List (Nat × List Nat) := [(0, [0]), (1, [0]), (2, [0, 5, 6, 7]), (3, [0, 5, 6, 7]), (4, [0, 4, 5, 6, 7]), (5, []), (6, [0, 5, 6, 7]), (7, [])]
noncomputable def s139 : SCode := toS (planAt pl139) (keepAt kp139) (Tryd.f139.body.getD .skip)
theorem fn139 : FnIs Tryd.prog 139 15 [.tmp 2] s139 := FnIs.mk' (planAt pl139) (keepAt kp139) (by kernel_rfl)
def pl140 : List (Nat × Plan) := []
def kp140 : List (Nat × List Nat) := [(0, [0, 1]), (1, [0])]
noncomputable def s140 : SCode := toS (planAt pl140) (keepAt kp140) (Tryd.f140.body.getD .skip)
theorem fn140 : FnIs Tryd.prog 140 13 [] s140 := FnIs.mk' (planAt pl140) (keepAt kp140) (by kernel_rfl)
def pl141 : List (Nat × Plan) := [(16, (.fl 0 (.fl 1 (.fl 2 (.fl 3 (.eff 4 [0] (.eff 5 [] (.fl 6 (.eff 7 [] .done))))))))), (24, (.fl 0 (.fl 1 (.fl 2 (.fl 3 (.eff 4 [0] (.eff 5 [] (.eff 6 [] .done))))))))]
def kp141 : List (Nat × List Nat) := [(0, [0, 1]), (1, [0, 1, 4]), (2, [0, 1, 4]), (3, [4]), (4, [0, 1, 4]), (5, [4]), (6, [0, 1, 4]), (7, [0, 1, 4]), (8, [0, 1, 4]), (9, [0, 1, 4]), (10, [0, 1, 4]), (11, [0, 1, 4]), (12, [0, 1, 4, 5]), (13, [0, 1, 4, 5, 6]), (14, [0, 1, 4, 5, 6]), (15, [0, 1, 4, 5, 6]), (16, [0, 1, 4, 5, 6]), (17, [4, 5]), (18, [0, 1, 4]), (19, [0, 1, 4]), (20, [0, 4, 7]), (21, [4, 7]), (22, [0, 1, 4]), (23, [0, 1, 4, 8]), (24, [0, 1, 4, 8]), (25, [0, 4, 8]), (26, [0, 4, 8]), (27, [4, 8])]
noncomputable def s141 : SCode := toS (planAt pl141) (keepAt kp141) (Tryd.f141.body.getD .skip)
theorem fn141 : FnIs Tryd.prog 141 86 [.cell 4 66] s141 := FnIs.mk' (planAt pl141) (keepAt kp141) (by kernel_rfl)
def pl143 : List (Nat × Plan) := []
def kp143 : List (Nat × List Nat) := [(0, [0, 1]), (1, [0, 1]), (2, [0, 1, 7, 8]), (3, [0, 1, 7, 8]), (4, [0, 1, 5, 7, 8]), (5, [5]), (6, [0, 1, 7, 8]), (7, [])]
noncomputable def s143 : SCode := toS (planAt pl143) (keepAt kp143) (Tryd.f143.body.getD .skip)
theorem fn143 : FnIs Tryd.prog 143 19 [.tmp 4] s143 := FnIs.mk' (planAt pl143) (keepAt kp143) (by kernel_rfl)
def pl144 : List (Nat × Plan) := [(15, (.fl 0 (.fl 1 (.fl 2 (.fl 4 (.fl 6 (.fl 7 (.fl 8 (.fl 9 (.fl 10 (.fl 11 (.fl 12 (.fl 13 (.fl 14 (.fl 15 (.both (.eff 3 [10] (.both (.eff 5 [10] (.eff 16 [] (.fl 17 (.fl 18 (.fl 19 (.eff 20 [] (.fl 21 .done))))))) (.eff 16 [] (.fl 17 (.fl 18 (.fl 19 (.eff 5 [10] (.eff 20 [] (.fl 21 .done))))))))) (.eff 16 [] (.fl 17 (.fl 18 (.fl 19 (.eff 3 [10] (.eff 5 [10] (.eff 20 [] (.fl 21 .done))))))))))))))))))))))))]
def kp144 : List (Nat × List Nat) := [(0, [0, 1]), (1, [0, 1, 4]), (2, [0, 1, 4, 6]), (3, [0, 1, 4, 6, 7]), (4, [0, 1, 4, 6, 7]), (5, [0, 1, 4, 6, 7]), (6, [0, 1, 4, 6, 7]), (7, [0, 1, 4, 6, 7, 8]), (8, [0, 1, 4, 7]), (9, [0, 1, 4, 7, 8]), (10, [0, 1, 4, 6, 7]), (11, [0, 1, 4, 7]), (12, [0, 1, 4, 7]), (13, [0, 1, 4, 7]), (14, [0, 1, 4, 7]), (15, [0, 1, 4, 7, 9, 10]), (16, [0, 1, 4, 6]), (17, [4]), (18, [0, 1, 4, 6]), (19, [0, 1, 4, 6, 119, 120, 121]), (20, [0, 1, 4, 6, 119, 120, 121]), (21, [0, 1, 4, 6, 12, 119, 120, 121]), (22, [0, 1, 4]), (23, [0, 1, 4, 6, 119, 120, 121]), (24, [4])]
noncomputable def s144 : SCode := toS (planAt pl144) (keepAt kp144) (Tryd.f144.body.getD .skip)
theorem fn144 : FnIs Tryd.prog 144 136 [.cell 4 199, .tmp 5] s144 := FnIs.mk' (planAt pl144) (keepAt kp144) (by kernel_rfl)
def pl145 : List (Nat × Plan) := []
def kp145 : List (Nat × List Nat) := [(0, [0]), (1, [0])]
noncomputable def s145 : SCode := toS (planAt pl145) (keepAt kp145) (Tryd.f145.body.getD .skip)
theorem fn145 : FnIs Tryd.prog 145 21 [.tmp 2] s145 := FnIs.mk' (planAt pl145) (keepAt kp145) (by kernel_rfl)
def pl146 : List (Nat × Plan) := []
def kp146 : List (Nat × List Nat) := [(0, [0]), (1, [0])]
noncomputable def s146 : SCode := toS (planAt pl146) (keepAt kp146) (Tryd.f146.body.getD .skip)
theorem fn146 : FnIs Tryd.prog 146 9 [.tmp 2] s146 := FnIs.mk' (planAt pl146) (keepAt kp146) (by kernel_rfl)
def pl147 : List (Nat × Plan) := []
def kp147 : List (Nat × List Nat) := [(0, [0]), (1, [0]), (2, [0, 4]), (3, [0, 4]), (4, [0, 4]), (5, []), (6, [0, 4]), (7, [0, 4, 5]), (8, [0, 4, 5, 6]), (9, [0, 4, 5, 6]), (10, [0, 4, 5, 6]), (11, [0, 4, 5, 6, 7]), (12, []), (13, [0, 4, 5, 6, 7]), (14, [0, 5]), (15, [5]), (16, [5]), (17, []), (18, [5])]
noncomputable def s147 : SCode := toS (planAt pl147) (keepAt kp147) (Tryd.f147.body.getD .skip)
theorem fn147 : FnIs Tryd.prog 147 77 [.tmp 2, .tmp 3] s147 := FnIs.mk' (planAt pl147) (keepAt kp147) (by kernel_rfl)
end Go.Aug
