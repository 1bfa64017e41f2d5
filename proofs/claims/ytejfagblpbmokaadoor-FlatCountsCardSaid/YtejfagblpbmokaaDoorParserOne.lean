/- The facts of the program's functions, and the contracts of the reference's tokens and parser; conditions stand in each contract. -/
import Derived.Test.YtejfagblpbmokaaDoorAugFour
import Derived.Test.YtejfagblpbmokaaDoorProg
import Derived.KernelRfl
set_option linter.all false
set_option linter.unusedVariables false
set_option linter.unusedSimpArgs false
set_option linter.unusedSectionVars false

/- The facts of the program's types and of the reference's parser that the reckoning asks; by program (gn.sh, gen2.py). -/
namespace Go.Aug
open Go.Proofs
set_option maxRecDepth 100000
/-- The package variables are the sixteen errors. -/
structure EbG where
  eb : Nat → Addr
  on : Nat → Bool
class On (e : EbG) (g : Nat) : Prop where
  on : e.on g = true
def seatV (e : EbG) : Env := ⟨206, 223, e.eb, fun g => if e.on g = true then some (.sent g) else none, fun _ => none, fun _ => false, fun _ => false⟩
@[go_sem] theorem seatV_pan {e : EbG} {f : FuncId} : (seatV e).pan f = false := Eq.trans rfl rfl
@[go_sem] theorem seatV_nz {e : EbG} {t : TypeId} : (seatV e).nz t = false := Eq.trans rfl rfl
theorem seatV_on {e : EbG} {g : Nat} (h : On e g) : (seatV e).G g = some (.sent g) := if_pos h.on
theorem mixed : Tryd.prog.follows .mixedOrders = true := by kernel_rfl
@[go_sem] theorem q_appOf_125 : appOf Tryd.prog 125 = (some (199, (3, 32))) := by kernel_rfl
@[go_sem] theorem q_appOf_23 : appOf Tryd.prog 23 = (some (68, (20, 336))) := by kernel_rfl
@[go_sem] theorem q_appOf_24 : appOf Tryd.prog 24 = (some (81, (6, 96))) := by kernel_rfl
@[go_sem] theorem q_appOf_25 : appOf Tryd.prog 25 = (some (36, (5, 96))) := by kernel_rfl
@[go_sem] theorem q_appOf_32 : appOf Tryd.prog 32 = (some (135, (3, 48))) := by kernel_rfl
@[go_sem] theorem q_appOf_33 : appOf Tryd.prog 33 = (some (117, (2, 32))) := by kernel_rfl
@[go_sem] theorem q_appOf_34 : appOf Tryd.prog 34 = (some (3, (1, 8))) := by kernel_rfl
@[go_sem] theorem q_appOf_37 : appOf Tryd.prog 37 = (some (39, (10, 128))) := by kernel_rfl
@[go_sem] theorem q_appOf_58 : appOf Tryd.prog 58 = (some (9, (1, 16))) := by kernel_rfl
@[go_sem] theorem q_appOf_59 : appOf Tryd.prog 59 = (some (114, (2, 40))) := by kernel_rfl
@[go_sem] theorem q_appOf_60 : appOf Tryd.prog 60 = (some (4, (1, 1))) := by kernel_rfl
@[go_sem] theorem q_appOf_61 : appOf Tryd.prog 61 = (some (63, (4, 56))) := by kernel_rfl
@[go_sem] theorem q_appOf_64 : appOf Tryd.prog 64 = (some (66, (12, 184))) := by kernel_rfl
@[go_sem] theorem q_bldOf_114 : bldOf Tryd.prog 114 = (some ([(.d (.str (ByteArray.mk (Array.mk [])))), .nils], [(0, 1), (1, 1)])) := by kernel_rfl
@[go_sem] theorem q_bldOf_117 : bldOf Tryd.prog 117 = (some ([.nils, (.d (.int .i64 (0 : Int)))], [(0, 1), (1, 1)])) := by kernel_rfl
@[go_sem] theorem q_bldOf_127 : bldOf Tryd.prog 127 = (some ([.nils, (.d (.int .i64 (0 : Int))), (.d (.int .i64 (0 : Int)))], [(0, 1), (1, 1), (2, 1)])) := by kernel_rfl
@[go_sem] theorem q_bldOf_135 : bldOf Tryd.prog 135 = (some ([(.d (.bool false)), (.d (.str (ByteArray.mk (Array.mk [])))), .nils], [(0, 1), (1, 1), (2, 1)])) := by kernel_rfl
@[go_sem] theorem q_bldOf_199 : bldOf Tryd.prog 199 = (some ([(.d (.int .i64 (0 : Int))), (.d (.str (ByteArray.mk (Array.mk [])))), (.d (.int .i64 (0 : Int)))], [(0, 1), (1, 1), (2, 1)])) := by kernel_rfl
@[go_sem] theorem q_bldOf_27 : bldOf Tryd.prog 27 = (some ([.nils, .nils, .nils], [(0, 1), (1, 1), (2, 1)])) := by kernel_rfl
@[go_sem] theorem q_bldOf_31 : bldOf Tryd.prog 31 = (some ([(.d (.str (ByteArray.mk (Array.mk [])))), (.d (.int .i64 (0 : Int)))], [(0, 1), (1, 1)])) := by kernel_rfl
@[go_sem] theorem q_bldOf_36 : bldOf Tryd.prog 36 = (some ([(.d (.str (ByteArray.mk (Array.mk [])))), (.d (.int .i64 (0 : Int))), .nils, .nils, .nils], [(0, 2), (2, 1), (3, 1), (4, 1)])) := by kernel_rfl
@[go_sem] theorem q_bldOf_39 : bldOf Tryd.prog 39 = (some ([(.d (.int .i64 (0 : Int))), (.d (.int .i64 (0 : Int))), (.d (.int .i64 (0 : Int))), (.d (.int .i64 (0 : Int))), (.d (.str (ByteArray.mk (Array.mk [])))), (.d (.int .i64 (0 : Int))), (.d (.str (ByteArray.mk (Array.mk [])))), (.d (.int .i64 (0 : Int))), .nils, .nils], [(0, 1), (1, 1), (2, 1), (3, 1), (4, 2), (6, 2), (8, 1), (9, 1)])) := by kernel_rfl
@[go_sem] theorem q_bldOf_41 : bldOf Tryd.prog 41 = (some ([(.d (.str (ByteArray.mk (Array.mk [])))), (.d (.int .i64 (0 : Int))), (.d (.int .i64 (0 : Int))), (.d (.int .i64 (0 : Int))), (.d (.int .i64 (0 : Int))), (.d (.int .i64 (0 : Int))), (.d (.int .i64 (0 : Int))), (.d (.str (ByteArray.mk (Array.mk [])))), (.d (.int .i64 (0 : Int))), (.d (.str (ByteArray.mk (Array.mk [])))), (.d (.int .i64 (0 : Int))), .nils, .nils], [(0, 2), (2, 1), (3, 10)])) := by kernel_rfl
@[go_sem] theorem q_bldOf_63 : bldOf Tryd.prog 63 = (some ([(.d (.int .i64 (0 : Int))), (.d (.str (ByteArray.mk (Array.mk [])))), (.d (.int .i64 (0 : Int))), .nils], [(0, 1), (1, 1), (2, 1), (3, 1)])) := by kernel_rfl
@[go_sem] theorem q_bldOf_66 : bldOf Tryd.prog 66 = (some ([(.d (.int .i64 (0 : Int))), (.d (.int .i64 (0 : Int))), (.d (.str (ByteArray.mk (Array.mk [])))), (.d (.int .i64 (0 : Int))), .nils, (.d (.int .i64 (0 : Int))), (.d (.str (ByteArray.mk (Array.mk [])))), (.d (.int .i64 (0 : Int))), .nils, (.d (.str (ByteArray.mk (Array.mk [])))), .nils, .nils], [(0, 1), (1, 4), (5, 4), (9, 1), (10, 1), (11, 1)])) := by kernel_rfl
@[go_sem] theorem q_bldOf_68 : bldOf Tryd.prog 68 = (some ([(.d (.int .i64 (0 : Int))), (.d (.str (ByteArray.mk (Array.mk [])))), .nils, .nils, .nils, .nils, (.d (.int .i64 (0 : Int))), .nils, (.d (.int .i64 (0 : Int))), (.d (.int .i64 (0 : Int))), (.d (.str (ByteArray.mk (Array.mk [])))), (.d (.int .i64 (0 : Int))), .nils, (.d (.int .i64 (0 : Int))), (.d (.str (ByteArray.mk (Array.mk [])))), (.d (.int .i64 (0 : Int))), .nils, (.d (.str (ByteArray.mk (Array.mk [])))), .nils, .nils], [(0, 1), (1, 1), (2, 1), (3, 1), (4, 1), (5, 1), (6, 1), (7, 1), (8, 12)])) := by kernel_rfl
@[go_sem] theorem q_bldOf_81 : bldOf Tryd.prog 81 = (some ([(.d (.str (ByteArray.mk (Array.mk [])))), (.d (.int .i64 (0 : Int))), (.d (.str (ByteArray.mk (Array.mk [])))), .nils, .nils, (.d (.int .i64 (0 : Int)))], [(0, 2), (2, 1), (3, 1), (4, 1), (5, 1)])) := by kernel_rfl
@[go_sem] theorem q_bldOf_99 : bldOf Tryd.prog 99 = (some ([(.d (.int .i64 (0 : Int))), (.d (.raw (.map none)))], [(0, 1), (1, 1)])) := by kernel_rfl
@[go_sem] theorem q_bsOf_125 : bsOf Tryd.prog 125 = (some (199, (3, false))) := by kernel_rfl
@[go_sem] theorem q_bsOf_203 : bsOf Tryd.prog 203 = (some (5, (1, true))) := by kernel_rfl
@[go_sem] theorem q_bsOf_23 : bsOf Tryd.prog 23 = (some (68, (20, false))) := by kernel_rfl
@[go_sem] theorem q_bsOf_24 : bsOf Tryd.prog 24 = (some (81, (6, false))) := by kernel_rfl
@[go_sem] theorem q_bsOf_25 : bsOf Tryd.prog 25 = (some (36, (5, false))) := by kernel_rfl
@[go_sem] theorem q_bsOf_32 : bsOf Tryd.prog 32 = (some (135, (3, false))) := by kernel_rfl
@[go_sem] theorem q_bsOf_33 : bsOf Tryd.prog 33 = (some (117, (2, false))) := by kernel_rfl
@[go_sem] theorem q_bsOf_34 : bsOf Tryd.prog 34 = (some (3, (1, false))) := by kernel_rfl
@[go_sem] theorem q_bsOf_37 : bsOf Tryd.prog 37 = (some (39, (10, false))) := by kernel_rfl
@[go_sem] theorem q_bsOf_58 : bsOf Tryd.prog 58 = (some (9, (1, false))) := by kernel_rfl
@[go_sem] theorem q_bsOf_59 : bsOf Tryd.prog 59 = (some (114, (2, false))) := by kernel_rfl
@[go_sem] theorem q_bsOf_60 : bsOf Tryd.prog 60 = (some (4, (1, false))) := by kernel_rfl
@[go_sem] theorem q_bsOf_61 : bsOf Tryd.prog 61 = (some (63, (4, false))) := by kernel_rfl
@[go_sem] theorem q_bsOf_64 : bsOf Tryd.prog 64 = (some (66, (12, false))) := by kernel_rfl
@[go_sem] theorem q_callable_102 : callable Tryd.prog 102 = true := by kernel_rfl
@[go_sem] theorem q_callable_103 : callable Tryd.prog 103 = true := by kernel_rfl
@[go_sem] theorem q_callable_104 : callable Tryd.prog 104 = true := by kernel_rfl
@[go_sem] theorem q_callable_105 : callable Tryd.prog 105 = true := by kernel_rfl
@[go_sem] theorem q_callable_106 : callable Tryd.prog 106 = true := by kernel_rfl
@[go_sem] theorem q_callable_107 : callable Tryd.prog 107 = true := by kernel_rfl
@[go_sem] theorem q_callable_108 : callable Tryd.prog 108 = true := by kernel_rfl
@[go_sem] theorem q_callable_111 : callable Tryd.prog 111 = true := by kernel_rfl
@[go_sem] theorem q_callable_112 : callable Tryd.prog 112 = true := by kernel_rfl
@[go_sem] theorem q_callable_113 : callable Tryd.prog 113 = true := by kernel_rfl
@[go_sem] theorem q_callable_114 : callable Tryd.prog 114 = true := by kernel_rfl
@[go_sem] theorem q_callable_115 : callable Tryd.prog 115 = true := by kernel_rfl
@[go_sem] theorem q_callable_116 : callable Tryd.prog 116 = true := by kernel_rfl
@[go_sem] theorem q_callable_117 : callable Tryd.prog 117 = true := by kernel_rfl
@[go_sem] theorem q_callable_118 : callable Tryd.prog 118 = true := by kernel_rfl
@[go_sem] theorem q_callable_119 : callable Tryd.prog 119 = true := by kernel_rfl
@[go_sem] theorem q_callable_13 : callable Tryd.prog 13 = true := by kernel_rfl
@[go_sem] theorem q_callable_131 : callable Tryd.prog 131 = true := by kernel_rfl
@[go_sem] theorem q_callable_137 : callable Tryd.prog 137 = true := by kernel_rfl
@[go_sem] theorem q_callable_138 : callable Tryd.prog 138 = true := by kernel_rfl
@[go_sem] theorem q_callable_139 : callable Tryd.prog 139 = true := by kernel_rfl
@[go_sem] theorem q_callable_14 : callable Tryd.prog 14 = true := by kernel_rfl
@[go_sem] theorem q_callable_140 : callable Tryd.prog 140 = true := by kernel_rfl
@[go_sem] theorem q_callable_141 : callable Tryd.prog 141 = true := by kernel_rfl
@[go_sem] theorem q_callable_144 : callable Tryd.prog 144 = true := by kernel_rfl
@[go_sem] theorem q_callable_145 : callable Tryd.prog 145 = true := by kernel_rfl
@[go_sem] theorem q_callable_146 : callable Tryd.prog 146 = true := by kernel_rfl
@[go_sem] theorem q_callable_147 : callable Tryd.prog 147 = true := by kernel_rfl
@[go_sem] theorem q_callable_15 : callable Tryd.prog 15 = true := by kernel_rfl
@[go_sem] theorem q_callable_20 : callable Tryd.prog 20 = true := by kernel_rfl
@[go_sem] theorem q_callable_23 : callable Tryd.prog 23 = true := by kernel_rfl
@[go_sem] theorem q_callable_24 : callable Tryd.prog 24 = true := by kernel_rfl
@[go_sem] theorem q_callable_26 : callable Tryd.prog 26 = true := by kernel_rfl
@[go_sem] theorem q_callable_40 : callable Tryd.prog 40 = true := by kernel_rfl
@[go_sem] theorem q_callable_41 : callable Tryd.prog 41 = true := by kernel_rfl
@[go_sem] theorem q_callable_42 : callable Tryd.prog 42 = true := by kernel_rfl
@[go_sem] theorem q_callable_43 : callable Tryd.prog 43 = true := by kernel_rfl
@[go_sem] theorem q_callable_44 : callable Tryd.prog 44 = true := by kernel_rfl
@[go_sem] theorem q_callable_46 : callable Tryd.prog 46 = true := by kernel_rfl
@[go_sem] theorem q_callable_47 : callable Tryd.prog 47 = true := by kernel_rfl
@[go_sem] theorem q_callable_48 : callable Tryd.prog 48 = true := by kernel_rfl
@[go_sem] theorem q_callable_50 : callable Tryd.prog 50 = true := by kernel_rfl
@[go_sem] theorem q_callable_54 : callable Tryd.prog 54 = true := by kernel_rfl
@[go_sem] theorem q_callable_55 : callable Tryd.prog 55 = true := by kernel_rfl
@[go_sem] theorem q_callable_56 : callable Tryd.prog 56 = true := by kernel_rfl
@[go_sem] theorem q_callable_58 : callable Tryd.prog 58 = true := by kernel_rfl
@[go_sem] theorem q_callable_59 : callable Tryd.prog 59 = true := by kernel_rfl
@[go_sem] theorem q_callable_60 : callable Tryd.prog 60 = true := by kernel_rfl
@[go_sem] theorem q_callable_61 : callable Tryd.prog 61 = true := by kernel_rfl
@[go_sem] theorem q_callable_62 : callable Tryd.prog 62 = true := by kernel_rfl
@[go_sem] theorem q_callable_63 : callable Tryd.prog 63 = true := by kernel_rfl
@[go_sem] theorem q_callable_64 : callable Tryd.prog 64 = true := by kernel_rfl
@[go_sem] theorem q_callable_66 : callable Tryd.prog 66 = true := by kernel_rfl
@[go_sem] theorem q_callable_81 : callable Tryd.prog 81 = true := by kernel_rfl
@[go_sem] theorem q_callable_85 : callable Tryd.prog 85 = true := by kernel_rfl
@[go_sem] theorem q_callable_87 : callable Tryd.prog 87 = true := by kernel_rfl
@[go_sem] theorem q_callable_89 : callable Tryd.prog 89 = true := by kernel_rfl
@[go_sem] theorem q_callable_90 : callable Tryd.prog 90 = true := by kernel_rfl
@[go_sem] theorem q_callable_91 : callable Tryd.prog 91 = true := by kernel_rfl
@[go_sem] theorem q_callable_92 : callable Tryd.prog 92 = true := by kernel_rfl
@[go_sem] theorem q_callable_93 : callable Tryd.prog 93 = true := by kernel_rfl
@[go_sem] theorem q_callable_94 : callable Tryd.prog 94 = true := by kernel_rfl
@[go_sem] theorem q_convOf_5_3 : convOf Tryd.prog 5 3 = (some (Conv.int .i64)) := by kernel_rfl
@[go_sem] theorem q_fieldOff_114_0 : fieldOff Tryd.prog 114 0 = (some 0) := by kernel_rfl
@[go_sem] theorem q_fieldOff_114_1 : fieldOff Tryd.prog 114 1 = (some 1) := by kernel_rfl
@[go_sem] theorem q_fieldOff_127_0 : fieldOff Tryd.prog 127 0 = (some 0) := by kernel_rfl
@[go_sem] theorem q_fieldOff_127_1 : fieldOff Tryd.prog 127 1 = (some 1) := by kernel_rfl
@[go_sem] theorem q_fieldOff_127_2 : fieldOff Tryd.prog 127 2 = (some 2) := by kernel_rfl
@[go_sem] theorem q_fieldOff_135_0 : fieldOff Tryd.prog 135 0 = (some 0) := by kernel_rfl
@[go_sem] theorem q_fieldOff_135_1 : fieldOff Tryd.prog 135 1 = (some 1) := by kernel_rfl
@[go_sem] theorem q_fieldOff_135_2 : fieldOff Tryd.prog 135 2 = (some 2) := by kernel_rfl
@[go_sem] theorem q_fieldOff_199_0 : fieldOff Tryd.prog 199 0 = (some 0) := by kernel_rfl
@[go_sem] theorem q_fieldOff_199_1 : fieldOff Tryd.prog 199 1 = (some 1) := by kernel_rfl
@[go_sem] theorem q_fieldOff_199_2 : fieldOff Tryd.prog 199 2 = (some 2) := by kernel_rfl
@[go_sem] theorem q_fieldOff_27_0 : fieldOff Tryd.prog 27 0 = (some 0) := by kernel_rfl
@[go_sem] theorem q_fieldOff_27_1 : fieldOff Tryd.prog 27 1 = (some 1) := by kernel_rfl
@[go_sem] theorem q_fieldOff_27_2 : fieldOff Tryd.prog 27 2 = (some 2) := by kernel_rfl
@[go_sem] theorem q_fieldOff_31_0 : fieldOff Tryd.prog 31 0 = (some 0) := by kernel_rfl
@[go_sem] theorem q_fieldOff_31_1 : fieldOff Tryd.prog 31 1 = (some 1) := by kernel_rfl
@[go_sem] theorem q_fieldOff_36_0 : fieldOff Tryd.prog 36 0 = (some 0) := by kernel_rfl
@[go_sem] theorem q_fieldOff_36_1 : fieldOff Tryd.prog 36 1 = (some 2) := by kernel_rfl
@[go_sem] theorem q_fieldOff_36_2 : fieldOff Tryd.prog 36 2 = (some 3) := by kernel_rfl
@[go_sem] theorem q_fieldOff_36_3 : fieldOff Tryd.prog 36 3 = (some 4) := by kernel_rfl
@[go_sem] theorem q_fieldOff_39_0 : fieldOff Tryd.prog 39 0 = (some 0) := by kernel_rfl
@[go_sem] theorem q_fieldOff_39_1 : fieldOff Tryd.prog 39 1 = (some 1) := by kernel_rfl
@[go_sem] theorem q_fieldOff_39_2 : fieldOff Tryd.prog 39 2 = (some 2) := by kernel_rfl
@[go_sem] theorem q_fieldOff_39_6 : fieldOff Tryd.prog 39 6 = (some 8) := by kernel_rfl
@[go_sem] theorem q_fieldOff_39_7 : fieldOff Tryd.prog 39 7 = (some 9) := by kernel_rfl
@[go_sem] theorem q_fieldOff_41_1 : fieldOff Tryd.prog 41 1 = (some 2) := by kernel_rfl
@[go_sem] theorem q_fieldOff_41_2 : fieldOff Tryd.prog 41 2 = (some 3) := by kernel_rfl
@[go_sem] theorem q_fieldOff_63_0 : fieldOff Tryd.prog 63 0 = (some 0) := by kernel_rfl
@[go_sem] theorem q_fieldOff_63_1 : fieldOff Tryd.prog 63 1 = (some 1) := by kernel_rfl
@[go_sem] theorem q_fieldOff_63_2 : fieldOff Tryd.prog 63 2 = (some 2) := by kernel_rfl
@[go_sem] theorem q_fieldOff_63_3 : fieldOff Tryd.prog 63 3 = (some 3) := by kernel_rfl
@[go_sem] theorem q_fieldOff_66_0 : fieldOff Tryd.prog 66 0 = (some 0) := by kernel_rfl
@[go_sem] theorem q_fieldOff_66_1 : fieldOff Tryd.prog 66 1 = (some 1) := by kernel_rfl
@[go_sem] theorem q_fieldOff_66_2 : fieldOff Tryd.prog 66 2 = (some 5) := by kernel_rfl
@[go_sem] theorem q_fieldOff_66_3 : fieldOff Tryd.prog 66 3 = (some 9) := by kernel_rfl
@[go_sem] theorem q_fieldOff_66_4 : fieldOff Tryd.prog 66 4 = (some 10) := by kernel_rfl
@[go_sem] theorem q_fieldOff_66_5 : fieldOff Tryd.prog 66 5 = (some 11) := by kernel_rfl
@[go_sem] theorem q_fieldOff_68_0 : fieldOff Tryd.prog 68 0 = (some 0) := by kernel_rfl
@[go_sem] theorem q_fieldOff_68_1 : fieldOff Tryd.prog 68 1 = (some 1) := by kernel_rfl
@[go_sem] theorem q_fieldOff_68_2 : fieldOff Tryd.prog 68 2 = (some 2) := by kernel_rfl
@[go_sem] theorem q_fieldOff_68_3 : fieldOff Tryd.prog 68 3 = (some 3) := by kernel_rfl
@[go_sem] theorem q_fieldOff_68_4 : fieldOff Tryd.prog 68 4 = (some 4) := by kernel_rfl
@[go_sem] theorem q_fieldOff_68_5 : fieldOff Tryd.prog 68 5 = (some 5) := by kernel_rfl
@[go_sem] theorem q_fieldOff_68_6 : fieldOff Tryd.prog 68 6 = (some 6) := by kernel_rfl
@[go_sem] theorem q_fieldOff_68_7 : fieldOff Tryd.prog 68 7 = (some 7) := by kernel_rfl
@[go_sem] theorem q_fieldOff_68_8 : fieldOff Tryd.prog 68 8 = (some 8) := by kernel_rfl
@[go_sem] theorem q_fieldOff_99_0 : fieldOff Tryd.prog 99 0 = (some 0) := by kernel_rfl
@[go_sem] theorem q_fieldOff_99_1 : fieldOff Tryd.prog 99 1 = (some 1) := by kernel_rfl
@[go_sem] theorem q_idxOf_125 : idxOf Tryd.prog 125 = (some 3) := by kernel_rfl
@[go_sem] theorem q_idxOf_203 : idxOf Tryd.prog 203 = (some 1) := by kernel_rfl
@[go_sem] theorem q_idxOf_23 : idxOf Tryd.prog 23 = (some 20) := by kernel_rfl
@[go_sem] theorem q_idxOf_25 : idxOf Tryd.prog 25 = (some 5) := by kernel_rfl
@[go_sem] theorem q_idxOf_32 : idxOf Tryd.prog 32 = (some 3) := by kernel_rfl
@[go_sem] theorem q_idxOf_34 : idxOf Tryd.prog 34 = (some 1) := by kernel_rfl
@[go_sem] theorem q_idxOf_37 : idxOf Tryd.prog 37 = (some 10) := by kernel_rfl
@[go_sem] theorem q_idxOf_58 : idxOf Tryd.prog 58 = (some 1) := by kernel_rfl
@[go_sem] theorem q_idxOf_59 : idxOf Tryd.prog 59 = (some 2) := by kernel_rfl
@[go_sem] theorem q_idxOf_60 : idxOf Tryd.prog 60 = (some 1) := by kernel_rfl
@[go_sem] theorem q_idxOf_61 : idxOf Tryd.prog 61 = (some 4) := by kernel_rfl
@[go_sem] theorem q_idxOf_64 : idxOf Tryd.prog 64 = (some 12) := by kernel_rfl
@[go_sem] theorem q_isBoolT_4 : isBoolT Tryd.prog 4 = true := by kernel_rfl
@[go_sem] theorem q_isIface_43 : isIface Tryd.prog 43 = true := by kernel_rfl
@[go_sem] theorem q_isSliceT_125 : isSliceT Tryd.prog 125 = true := by kernel_rfl
@[go_sem] theorem q_isSliceT_203 : isSliceT Tryd.prog 203 = true := by kernel_rfl
@[go_sem] theorem q_isSliceT_23 : isSliceT Tryd.prog 23 = true := by kernel_rfl
@[go_sem] theorem q_isSliceT_25 : isSliceT Tryd.prog 25 = true := by kernel_rfl
@[go_sem] theorem q_isSliceT_32 : isSliceT Tryd.prog 32 = true := by kernel_rfl
@[go_sem] theorem q_isSliceT_34 : isSliceT Tryd.prog 34 = true := by kernel_rfl
@[go_sem] theorem q_isSliceT_37 : isSliceT Tryd.prog 37 = true := by kernel_rfl
@[go_sem] theorem q_isSliceT_58 : isSliceT Tryd.prog 58 = true := by kernel_rfl
@[go_sem] theorem q_isSliceT_59 : isSliceT Tryd.prog 59 = true := by kernel_rfl
@[go_sem] theorem q_isSliceT_60 : isSliceT Tryd.prog 60 = true := by kernel_rfl
@[go_sem] theorem q_isSliceT_61 : isSliceT Tryd.prog 61 = true := by kernel_rfl
@[go_sem] theorem q_isSliceT_64 : isSliceT Tryd.prog 64 = true := by kernel_rfl
@[go_sem] theorem q_isStrT_9 : isStrT Tryd.prog 9 = true := by kernel_rfl
@[go_sem] theorem q_keyK_31 : keyK Tryd.prog 31 = (some (.row [.str, (.int .i64)])) := by kernel_rfl
@[go_sem] theorem q_mapOf_151 : mapOf Tryd.prog 151 = (some ((.one (.int .i64)), (.bool false))) := by kernel_rfl
@[go_sem] theorem q_mapOf_97 : mapOf Tryd.prog 97 = (some ((.one .str), (.int .i64 (0 : Int)))) := by kernel_rfl
@[go_sem] theorem q_mkOf_34 : mkOf Tryd.prog 34 = (some (3, (1, (8, (.int .i64 (0 : Int)))))) := by kernel_rfl
@[go_sem] theorem q_sameSl_203_203 : sameSl Tryd.prog 203 203 = true := by kernel_rfl
@[go_sem] theorem q_sameSl_5_3 : sameSl Tryd.prog 5 3 = false := by kernel_rfl
@[go_sem] theorem q_sliceOf_58 : sliceOf Tryd.prog 58 = (some (some 1)) := by kernel_rfl
@[go_sem] theorem q_sliceOf_9 : sliceOf Tryd.prog 9 = (some none) := by kernel_rfl
@[go_sem] theorem q_tshape_114 : tshape Tryd.prog 114 = (some (true, 2)) := by kernel_rfl
@[go_sem] theorem q_tshape_125 : tshape Tryd.prog 125 = (some (false, 1)) := by kernel_rfl
@[go_sem] theorem q_tshape_132 : tshape Tryd.prog 132 = (some (false, 1)) := by kernel_rfl
@[go_sem] theorem q_tshape_135 : tshape Tryd.prog 135 = (some (true, 3)) := by kernel_rfl
@[go_sem] theorem q_tshape_199 : tshape Tryd.prog 199 = (some (true, 3)) := by kernel_rfl
@[go_sem] theorem q_tshape_23 : tshape Tryd.prog 23 = (some (false, 1)) := by kernel_rfl
@[go_sem] theorem q_tshape_24 : tshape Tryd.prog 24 = (some (false, 1)) := by kernel_rfl
@[go_sem] theorem q_tshape_25 : tshape Tryd.prog 25 = (some (false, 1)) := by kernel_rfl
@[go_sem] theorem q_tshape_27 : tshape Tryd.prog 27 = (some (true, 3)) := by kernel_rfl
@[go_sem] theorem q_tshape_3 : tshape Tryd.prog 3 = (some (false, 1)) := by kernel_rfl
@[go_sem] theorem q_tshape_31 : tshape Tryd.prog 31 = (some (true, 2)) := by kernel_rfl
@[go_sem] theorem q_tshape_32 : tshape Tryd.prog 32 = (some (false, 1)) := by kernel_rfl
@[go_sem] theorem q_tshape_33 : tshape Tryd.prog 33 = (some (false, 1)) := by kernel_rfl
@[go_sem] theorem q_tshape_34 : tshape Tryd.prog 34 = (some (false, 1)) := by kernel_rfl
@[go_sem] theorem q_tshape_36 : tshape Tryd.prog 36 = (some (true, 5)) := by kernel_rfl
@[go_sem] theorem q_tshape_37 : tshape Tryd.prog 37 = (some (false, 1)) := by kernel_rfl
@[go_sem] theorem q_tshape_39 : tshape Tryd.prog 39 = (some (true, 10)) := by kernel_rfl
@[go_sem] theorem q_tshape_4 : tshape Tryd.prog 4 = (some (false, 1)) := by kernel_rfl
@[go_sem] theorem q_tshape_41 : tshape Tryd.prog 41 = (some (true, 13)) := by kernel_rfl
@[go_sem] theorem q_tshape_43 : tshape Tryd.prog 43 = (some (false, 1)) := by kernel_rfl
@[go_sem] theorem q_tshape_5 : tshape Tryd.prog 5 = (some (false, 1)) := by kernel_rfl
@[go_sem] theorem q_tshape_58 : tshape Tryd.prog 58 = (some (false, 1)) := by kernel_rfl
@[go_sem] theorem q_tshape_59 : tshape Tryd.prog 59 = (some (false, 1)) := by kernel_rfl
@[go_sem] theorem q_tshape_60 : tshape Tryd.prog 60 = (some (false, 1)) := by kernel_rfl
@[go_sem] theorem q_tshape_61 : tshape Tryd.prog 61 = (some (false, 1)) := by kernel_rfl
@[go_sem] theorem q_tshape_63 : tshape Tryd.prog 63 = (some (true, 4)) := by kernel_rfl
@[go_sem] theorem q_tshape_64 : tshape Tryd.prog 64 = (some (false, 1)) := by kernel_rfl
@[go_sem] theorem q_tshape_66 : tshape Tryd.prog 66 = (some (true, 12)) := by kernel_rfl
@[go_sem] theorem q_tshape_68 : tshape Tryd.prog 68 = (some (true, 20)) := by kernel_rfl
@[go_sem] theorem q_tshape_9 : tshape Tryd.prog 9 = (some (false, 1)) := by kernel_rfl
@[go_sem] theorem q_tshape_97 : tshape Tryd.prog 97 = (some (false, 1)) := by kernel_rfl
@[go_sem] theorem q_zeroOf_114 : zeroOf Tryd.prog 114 = (some [(.d (.str (ByteArray.mk (Array.mk [])))), .nils]) := by kernel_rfl
@[go_sem] theorem q_zeroOf_135 : zeroOf Tryd.prog 135 = (some [(.d (.bool false)), (.d (.str (ByteArray.mk (Array.mk [])))), .nils]) := by kernel_rfl
@[go_sem] theorem q_zeroOf_199 : zeroOf Tryd.prog 199 = (some [(.d (.int .i64 (0 : Int))), (.d (.str (ByteArray.mk (Array.mk [])))), (.d (.int .i64 (0 : Int)))]) := by kernel_rfl
@[go_sem] theorem q_zeroOf_27 : zeroOf Tryd.prog 27 = (some [.nils, .nils, .nils]) := by kernel_rfl
@[go_sem] theorem q_zeroOf_3 : zeroOf Tryd.prog 3 = (some [(.d (.int .i64 (0 : Int)))]) := by kernel_rfl
@[go_sem] theorem q_zeroOf_31 : zeroOf Tryd.prog 31 = (some [(.d (.str (ByteArray.mk (Array.mk [])))), (.d (.int .i64 (0 : Int)))]) := by kernel_rfl
@[go_sem] theorem q_zeroOf_34 : zeroOf Tryd.prog 34 = (some [.nils]) := by kernel_rfl
@[go_sem] theorem q_zeroOf_36 : zeroOf Tryd.prog 36 = (some [(.d (.str (ByteArray.mk (Array.mk [])))), (.d (.int .i64 (0 : Int))), .nils, .nils, .nils]) := by kernel_rfl
@[go_sem] theorem q_zeroOf_39 : zeroOf Tryd.prog 39 = (some [(.d (.int .i64 (0 : Int))), (.d (.int .i64 (0 : Int))), (.d (.int .i64 (0 : Int))), (.d (.int .i64 (0 : Int))), (.d (.str (ByteArray.mk (Array.mk [])))), (.d (.int .i64 (0 : Int))), (.d (.str (ByteArray.mk (Array.mk [])))), (.d (.int .i64 (0 : Int))), .nils, .nils]) := by kernel_rfl
@[go_sem] theorem q_zeroOf_4 : zeroOf Tryd.prog 4 = (some [(.d (.bool false))]) := by kernel_rfl
@[go_sem] theorem q_zeroOf_41 : zeroOf Tryd.prog 41 = (some [(.d (.str (ByteArray.mk (Array.mk [])))), (.d (.int .i64 (0 : Int))), (.d (.int .i64 (0 : Int))), (.d (.int .i64 (0 : Int))), (.d (.int .i64 (0 : Int))), (.d (.int .i64 (0 : Int))), (.d (.int .i64 (0 : Int))), (.d (.str (ByteArray.mk (Array.mk [])))), (.d (.int .i64 (0 : Int))), (.d (.str (ByteArray.mk (Array.mk [])))), (.d (.int .i64 (0 : Int))), .nils, .nils]) := by kernel_rfl
@[go_sem] theorem q_zeroOf_63 : zeroOf Tryd.prog 63 = (some [(.d (.int .i64 (0 : Int))), (.d (.str (ByteArray.mk (Array.mk [])))), (.d (.int .i64 (0 : Int))), .nils]) := by kernel_rfl
@[go_sem] theorem q_zeroOf_66 : zeroOf Tryd.prog 66 = (some [(.d (.int .i64 (0 : Int))), (.d (.int .i64 (0 : Int))), (.d (.str (ByteArray.mk (Array.mk [])))), (.d (.int .i64 (0 : Int))), .nils, (.d (.int .i64 (0 : Int))), (.d (.str (ByteArray.mk (Array.mk [])))), (.d (.int .i64 (0 : Int))), .nils, (.d (.str (ByteArray.mk (Array.mk [])))), .nils, .nils]) := by kernel_rfl
@[go_sem] theorem q_zeroOf_68 : zeroOf Tryd.prog 68 = (some [(.d (.int .i64 (0 : Int))), (.d (.str (ByteArray.mk (Array.mk [])))), .nils, .nils, .nils, .nils, (.d (.int .i64 (0 : Int))), .nils, (.d (.int .i64 (0 : Int))), (.d (.int .i64 (0 : Int))), (.d (.str (ByteArray.mk (Array.mk [])))), (.d (.int .i64 (0 : Int))), .nils, (.d (.int .i64 (0 : Int))), (.d (.str (ByteArray.mk (Array.mk [])))), (.d (.int .i64 (0 : Int))), .nils, (.d (.str (ByteArray.mk (Array.mk [])))), .nils, .nils]) := by kernel_rfl
def pl3 : List (Nat × Plan) := [(14, (.fl 0 (.fl 1 (.fl 2 (.fl 3 (.fl 4 (.fl 5 (.fl 6 (.eff 7 [1] (.fl 8 (.fl 9 (.eff 10 [] .done)))))))))))), (21, (.fl 0 (.fl 1 (.fl 2 (.fl 3 (.fl 4 (.fl 5 (.fl 6 (.eff 7 [] (.fl 8 .done))))))))))]
def kp3 : List (Nat × List Nat) := [(0, [0]), (1, [0]), (2, []), (3, [0]), (4, [3, 4, 5]), (5, []), (6, [3, 4]), (7, [3, 4, 26, 27, 28]), (8, [3, 4, 26, 27, 28]), (9, [3, 4, 6, 7, 26, 27, 28]), (10, [3, 4, 6, 7, 8, 26, 27, 28]), (11, [3, 4, 6, 7, 8, 9, 10, 26, 27, 28]), (12, [3, 4, 6, 7, 8, 9, 26, 27, 28]), (13, [3, 4, 6, 7, 8, 9, 11, 26, 27, 28]), (14, [3, 4, 6, 7, 8, 9, 11, 26, 27, 28]), (15, [3, 4, 7, 8, 9, 11, 26, 27, 28]), (16, [3, 4, 8, 9, 10, 12, 26, 27, 28]), (17, []), (18, [3, 4, 9, 12, 26, 27, 28]), (19, [3, 4, 9, 26, 27, 28, 102, 103, 104]), (20, [3, 4, 9, 26, 27, 28, 102, 103, 104]), (21, [3, 4, 9, 13, 14, 26, 27, 28, 102, 103, 104]), (22, []), (23, [3, 4, 9, 26, 27, 28, 102, 103, 104]), (24, [3, 4, 26, 27, 28]), (25, [])]
noncomputable def s3 : SCode := toS (planAt pl3) (keepAt kp3) (Tryd.f3.body.getD .skip)
def pl4 : List (Nat × Plan) := []
def kp4 : List (Nat × List Nat) := [(0, [0]), (1, [0]), (2, []), (3, [0]), (4, [0, 3, 4]), (5, []), (6, [0, 3]), (7, [3, 5]), (8, [3, 5, 7, 8]), (9, [3, 5, 7, 8, 9, 10])]
noncomputable def s4 : SCode := toS (planAt pl4) (keepAt kp4) (Tryd.f4.body.getD .skip)
def pl5 : List (Nat × Plan) := []
def kp5 : List (Nat × List Nat) := [(0, [0, 1]), (1, [0, 1]), (2, []), (3, [0, 1]), (4, [0, 1]), (5, [0, 1, 5, 6]), (6, []), (7, [0, 1]), (8, [0, 1, 7, 8, 9]), (9, [0, 1, 7, 8, 9, 10]), (10, [0, 1, 7, 8, 9, 10]), (11, [0, 1, 7, 8, 9, 10]), (12, [0, 1, 7, 8, 9, 10, 11]), (13, [0, 1, 7, 8, 9, 10]), (14, [0, 1, 7, 8, 9, 10, 11]), (15, [0, 1, 7, 8, 9]), (16, [0, 1, 7, 8, 9]), (17, [0, 1, 7, 8, 9]), (18, [0, 1, 12, 13]), (19, [0, 1, 13, 14, 15]), (20, [13, 14, 15, 16])]
noncomputable def s5 : SCode := toS (planAt pl5) (keepAt kp5) (Tryd.f5.body.getD .skip)
def pl6 : List (Nat × Plan) := []
def kp6 : List (Nat × List Nat) := [(0, [0]), (1, [0]), (2, []), (3, [0]), (4, [3, 4]), (5, []), (6, [3]), (7, [3, 5]), (8, [3, 5, 6]), (9, [3, 5, 6]), (10, [3, 5, 6]), (11, [3, 5]), (12, [5, 7, 8]), (13, [7, 8, 9, 10]), (14, []), (15, [7, 9]), (16, [9, 82, 83, 84]), (17, [9, 82, 83, 84]), (18, [9, 12, 82, 83, 84]), (19, [9, 12, 13, 14, 82, 83, 84]), (20, []), (21, [9, 82, 83, 84]), (22, [])]
noncomputable def s6 : SCode := toS (planAt pl6) (keepAt kp6) (Tryd.f6.body.getD .skip)
def pl7 : List (Nat × Plan) := [(16, (.fl 0 (.fl 1 (.fl 2 (.fl 3 (.fl 4 (.fl 5 (.fl 6 (.fl 7 (.fl 8 (.fl 9 (.fl 10 (.fl 11 (.fl 12 (.fl 13 (.fl 14 (.fl 15 (.fl 16 (.fl 17 (.fl 18 (.fl 19 (.fl 20 (.fl 21 (.fl 22 (.fl 23 (.fl 24 (.fl 25 (.fl 26 (.fl 27 (.fl 28 (.fl 29 (.fl 30 (.fl 31 (.fl 32 (.fl 33 (.fl 34 (.fl 35 (.fl 36 (.fl 37 (.fl 38 (.fl 39 .done))))))))))))))))))))))))))))))))))))))))), (29, (.fl 0 (.fl 1 (.fl 2 (.fl 3 (.fl 5 (.fl 6 (.fl 7 (.fl 8 (.fl 9 (.both (.eff 4 [7, 9] (.eff 10 [3] (.eff 11 [] (.fl 12 (.fl 13 .done))))) (.eff 10 [3] (.eff 4 [7, 9] (.eff 11 [] (.fl 12 (.fl 13 .done))))))))))))))))]
def kp7 : List (Nat × List Nat) := [(0, [0]), (1, [0]), (2, []), (3, [0]), (4, [3, 4]), (5, []), (6, [3]), (7, [3, 5, 6]), (8, []), (9, [3, 5]), (10, [3, 5, 34, 35, 36]), (11, [3, 5, 34, 35, 36]), (12, [3, 5, 8, 34, 35, 36]), (13, [3, 5, 8, 9, 34, 35, 36]), (14, [3, 5, 8, 9, 34, 35, 36, 41, 42, 43]), (15, [3, 5, 8, 9, 34, 35, 36, 41, 42, 43]), (16, [3, 5, 8, 9, 11, 34, 35, 36, 41, 42, 43]), (17, []), (18, [3, 5, 8, 11, 34, 35, 36, 41, 42, 43]), (19, [3, 5, 8, 9, 34, 35, 36, 41, 42, 43]), (20, [3, 5, 8, 34, 35, 36]), (21, []), (22, [3, 5, 34, 35, 36]), (23, [3, 5]), (24, [3, 5, 12]), (25, [5, 12, 103, 104, 105]), (26, [5, 12, 103, 104, 105]), (27, [5, 12, 14, 103, 104, 105]), (28, [5, 12, 14, 103, 104, 105]), (29, [5, 12, 14, 15, 16, 103, 104, 105]), (30, []), (31, [5, 12, 103, 104, 105]), (32, [5, 12, 103, 104, 105]), (33, [5, 12])]
noncomputable def s7 : SCode := toS (planAt pl7) (keepAt kp7) (Tryd.f7.body.getD .skip)
def pl8 : List (Nat × Plan) := []
def kp8 : List (Nat × List Nat) := [(0, [0, 1]), (1, [0, 3]), (2, []), (3, [0, 3]), (4, [0, 3, 5, 6, 7]), (5, []), (6, [0, 3, 5, 6]), (7, [0, 5, 6, 8]), (8, [0, 5, 6, 8, 33, 34, 35]), (9, [0, 5, 6, 8, 33, 34, 35]), (10, [0, 5, 6, 8, 10, 33, 34, 35]), (11, [0, 5, 6, 8, 33, 34, 35]), (12, [0, 5, 6, 8]), (13, [0, 5, 6, 45, 46, 47]), (14, [0, 5, 6, 45, 46, 47]), (15, [0, 5, 6, 12, 45, 46, 47]), (16, [0, 5, 6, 12, 13, 14, 45, 46, 47]), (17, [0, 5, 6, 13, 14, 15, 16, 45, 46, 47]), (18, []), (19, [0, 5, 6, 45, 46, 47]), (20, [0, 5]), (21, [5, 17])]
noncomputable def s8 : SCode := toS (planAt pl8) (keepAt kp8) (Tryd.f8.body.getD .skip)
def pl9 : List (Nat × Plan) := [(13, (.fl 0 (.fl 1 (.fl 2 (.fl 4 (.fl 5 (.fl 6 (.eff 3 [4, 6] (.eff 7 [] (.fl 8 (.fl 9 .done))))))))))), (14, (.fl 0 (.fl 1 (.eff 2 [] (.fl 3 (.fl 4 (.fl 5 (.fl 6 (.fl 7 (.fl 8 (.fl 9 (.fl 10 (.fl 11 (.eff 12 [] (.fl 13 (.fl 14 (.fl 15 (.fl 16 (.fl 17 (.fl 18 (.fl 19 (.fl 20 (.fl 21 (.fl 22 (.fl 23 (.fl 24 (.fl 25 (.fl 26 (.fl 27 (.fl 28 (.fl 29 (.fl 31 (.fl 32 (.eff 30 [31] (.eff 33 [] (.fl 34 (.fl 35 (.fl 36 (.fl 37 (.fl 39 (.eff 38 [39] (.eff 40 [] (.fl 41 (.fl 42 .done)))))))))))))))))))))))))))))))))))))))))))), (19, (.fl 0 (.fl 1 (.fl 2 (.fl 3 (.fl 4 (.fl 5 (.fl 6 (.fl 7 (.eff 8 [] (.fl 9 .done)))))))))))]
def kp9 : List (Nat × List Nat) := [(0, [0, 1, 2]), (1, [0, 2, 4]), (2, []), (3, [0, 2, 4]), (4, [2, 4, 7, 8]), (5, []), (6, [2, 4, 7]), (7, [2, 4, 9, 10]), (8, []), (9, [2, 4, 9]), (10, [2, 4, 9, 11, 12]), (11, [2, 4, 9, 11, 12, 13, 14]), (12, [2, 4, 9, 11, 12, 13, 14, 15, 16]), (13, [2, 4, 9, 11, 12, 13, 14, 15, 16, 17, 18]), (14, [2, 4, 11, 12, 13, 14, 15, 16, 17, 18, 19, 20]), (15, []), (16, [19, 20]), (17, [19, 20, 114, 115]), (18, [19, 20, 114, 115]), (19, [19, 20, 21, 114, 115]), (20, []), (21, [19, 20, 114, 115]), (22, [])]
noncomputable def s9 : SCode := toS (planAt pl9) (keepAt kp9) (Tryd.f9.body.getD .skip)
def pl10 : List (Nat × Plan) := [(35, (.fl 0 (.fl 1 (.fl 2 (.fl 3 (.fl 4 (.fl 5 (.fl 6 (.fl 7 (.fl 8 (.fl 9 (.fl 10 (.fl 11 (.fl 12 (.fl 13 (.fl 14 (.fl 15 (.fl 16 (.fl 17 (.fl 18 (.fl 19 (.fl 20 (.fl 21 (.fl 22 (.fl 23 (.fl 24 (.fl 25 (.fl 26 (.fl 27 (.fl 28 (.fl 29 (.fl 30 .done))))))))))))))))))))))))))))))))]
def kp10 : List (Nat × List Nat) := [(0, [0]), (1, [0, 2]), (2, [2]), (3, [0, 2]), (4, [2, 3, 4, 5]), (5, [2]), (6, [2, 3, 4]), (7, [2, 3, 4, 31, 32, 33]), (8, [2, 3, 4, 31, 32, 33]), (9, [2, 3, 4, 7, 31, 32, 33]), (10, [2, 3, 4, 7, 8, 9, 31, 32, 33]), (11, [2, 3, 4, 7, 8, 31, 32, 33]), (12, [2, 3, 4, 7, 8, 10, 31, 32, 33]), (13, [2, 3, 4, 7, 8, 10, 31, 32, 33, 48, 49, 50]), (14, [2, 3, 4, 7, 8, 10, 31, 32, 33, 48, 49, 50]), (15, [2, 3, 4, 7, 8, 10, 12, 31, 32, 33, 48, 49, 50]), (16, [2, 3, 4, 7, 8, 10, 12, 31, 32, 33, 48, 49, 50]), (17, [2, 3, 4, 7, 8, 10, 31, 32, 33, 48, 49, 50, 66, 67, 68]), (18, [2, 3, 4, 7, 8, 10, 31, 32, 33, 48, 49, 50, 66, 67, 68]), (19, [2, 3, 4, 7, 8, 10, 14, 31, 32, 33, 48, 49, 50, 66, 67, 68]), (20, [2, 3, 4, 7, 8, 10, 31, 32, 33, 48, 49, 50, 66, 67, 68]), (21, [2, 3, 4, 7, 8, 10, 31, 32, 33, 48, 49, 50]), (22, [2, 3, 4, 7, 8, 10, 31, 32, 33]), (23, [2]), (24, [2, 3, 4, 7, 8, 31, 32, 33]), (25, [2, 3, 4, 7, 8, 15, 31, 32, 33]), (26, [2, 3, 4, 7, 8, 15, 16, 31, 32, 33]), (27, [2, 3, 4, 7, 8, 15, 31, 32, 33]), (28, [2, 3, 4, 7, 8, 15, 16, 31, 32, 33]), (29, [2]), (30, [2, 3, 4, 7, 8, 15, 16, 31, 32, 33]), (31, [2, 3, 4, 7, 8, 15, 31, 32, 33, 108, 109, 110]), (32, [2, 3, 4, 7, 8, 15, 31, 32, 33, 108, 109, 110]), (33, [2, 3, 4, 7, 8, 15, 17, 18, 31, 32, 33, 108, 109, 110]), (34, [2, 7, 8, 15, 17, 117]), (35, [2, 7, 8, 15, 17, 19]), (36, [2]), (37, [15, 17, 19]), (38, [2, 3, 4, 7, 8, 15, 31, 32, 33, 108, 109, 110]), (39, [2, 3, 4, 31, 32, 33]), (40, [2])]
noncomputable def s10 : SCode := toS (planAt pl10) (keepAt kp10) (Tryd.f10.body.getD .skip)
theorem fn10 : FnIs Tryd.prog 10 156 [.cell 2 4] s10 := FnIs.mk' (planAt pl10) (keepAt kp10) (by kernel_rfl)
def pl13 : List (Nat × Plan) := []
def kp13 : List (Nat × List Nat) := [(0, []), (1, []), (2, [1, 2, 3]), (3, [3, 4, 5])]
noncomputable def s13 : SCode := toS (planAt pl13) (keepAt kp13) (Tryd.f13.body.getD .skip)
theorem fn13 : FnIs Tryd.prog 13 46 [.tmp 0] s13 := FnIs.mk' (planAt pl13) (keepAt kp13) (by kernel_rfl)
def pl14 : List (Nat × Plan) := [(5, (.fl 0 (.fl 1 (.fl 2 (.fl 3 (.eff 4 [] (.fl 5 .done)))))))]
def kp14 : List (Nat × List Nat) := [(0, [0]), (1, [0, 3]), (2, [3, 5, 6]), (3, [3]), (4, [3, 5]), (5, [3, 5, 7, 8])]
noncomputable def s14 : SCode := toS (planAt pl14) (keepAt kp14) (Tryd.f14.body.getD .skip)
theorem fn14 : FnIs Tryd.prog 14 25 [.tmp 2, .cell 3 27, .tmp 4] s14 := FnIs.mk' (planAt pl14) (keepAt kp14) (by kernel_rfl)
def pl15 : List (Nat × Plan) := [(3, (.fl 1 (.eff 0 [1] (.eff 2 [1] (.fl 3 .done))))), (20, (.fl 1 (.eff 0 [1] (.eff 2 [1] (.fl 3 .done))))), (21, (.fl 0 (.fl 1 (.fl 2 (.fl 3 (.fl 4 (.both (.eff 5 [0, 4] (.both (.eff 6 [] (.eff 7 [0, 4] (.eff 8 [] .done))) (.eff 7 [0, 4] (.eff 6 [] (.eff 8 [] .done))))) (.eff 7 [0, 4] (.eff 5 [0, 4] (.eff 6 [] (.eff 8 [] .done)))))))))))]
def kp15 : List (Nat × List Nat) := [(0, [0, 1, 2]), (1, [0, 4, 5, 6]), (2, [0, 5, 6, 8, 9]), (3, [6]), (4, [0, 5, 6, 8]), (5, [0, 5, 6, 8, 10]), (6, [0, 5, 6, 8, 10, 11]), (7, [0, 5, 6, 10, 11, 38, 39, 40]), (8, [0, 5, 6, 10, 11, 38, 39, 40]), (9, [0, 5, 6, 10, 11, 13, 38, 39, 40]), (10, [0, 5, 6, 10, 11, 14, 38, 39, 40]), (11, [0, 5, 6, 10, 11, 14, 38, 39, 40]), (12, [0, 5, 6, 10, 11, 14, 15, 38, 39, 40]), (13, [0, 5, 6, 10, 11, 14, 15, 38, 39, 40, 53, 54, 55]), (14, [0, 5, 6, 10, 11, 14, 15, 38, 39, 40, 53, 54, 55]), (15, [0, 5, 6, 10, 11, 14, 15, 16, 17, 38, 39, 40, 53, 54, 55]), (16, [0, 5, 6, 10, 11, 14, 15, 38, 39, 40, 53, 54, 55]), (17, [0, 5, 6, 10, 11, 14, 15, 38, 39, 40]), (18, [0, 5, 6, 10, 11, 38, 39, 40]), (19, [5, 6, 10, 11]), (20, [6]), (21, [5, 6, 10, 11]), (22, [6, 11, 18]), (23, [6, 11, 18]), (24, [6, 11, 18, 93]), (25, [6, 11, 18, 93]), (26, [6, 11, 18]), (27, [6, 18])]
noncomputable def s15 : SCode := toS (planAt pl15) (keepAt kp15) (Tryd.f15.body.getD .skip)
theorem fn15 : FnIs Tryd.prog 15 106 [.cell 6 41, .tmp 7] s15 := FnIs.mk' (planAt pl15) (keepAt kp15) (by kernel_rfl)
def pl20 : List (Nat × Plan) := [(16, (.fl 0 (.fl 2 (.fl 3 (.both (.eff 1 [3] (.both (.eff 4 [] (.eff 5 [0, 3] (.eff 6 [] .done))) (.eff 5 [0, 3] (.eff 4 [] (.eff 6 [] .done))))) (.eff 5 [0, 3] (.eff 1 [3] (.eff 4 [] (.eff 6 [] .done))))))))), (20, (.fl 0 (.fl 1 (.fl 2 (.fl 3 (.fl 4 (.fl 6 (.fl 7 (.eff 5 [7] (.fl 8 (.fl 9 .done))))))))))), (22, (.fl 0 (.fl 1 (.fl 2 (.fl 3 (.fl 4 (.fl 6 (.fl 7 (.eff 5 [7] (.fl 8 (.fl 9 .done)))))))))))]
def kp20 : List (Nat × List Nat) := [(0, [0]), (1, [0, 2]), (2, [0, 2, 4]), (3, [0, 2, 4, 14, 15, 16]), (4, [0, 2, 4, 14, 15, 16]), (5, [0, 2, 4, 5, 6, 14, 15, 16]), (6, [2]), (7, [0, 2, 4, 6, 14, 15, 16]), (8, [0, 2, 4, 6, 14, 15, 16, 27]), (9, [0, 2, 4, 6, 14, 15, 16]), (10, [0, 2, 4, 6, 14, 15, 16]), (11, [0, 2, 4, 6, 14, 15, 16, 37, 38, 39]), (12, [0, 2, 4, 6, 14, 15, 16, 37, 38, 39]), (13, [0, 2, 4, 6, 7, 8, 14, 15, 16, 37, 38, 39]), (14, [0, 2, 4, 6, 14, 15, 16, 37, 38, 39]), (15, [0, 2, 4, 6, 14, 15, 16, 27]), (16, [0, 2, 4, 6, 14, 15, 16]), (17, [0, 2, 4, 9, 14, 15, 16]), (18, [0, 2, 4, 9, 14, 15, 16, 71, 72, 73]), (19, [0, 2, 4, 9, 14, 15, 16, 71, 72, 73]), (20, [0, 2, 4, 9, 10, 11, 14, 15, 16, 71, 72, 73]), (21, [0, 2, 4, 9, 10, 11, 14, 15, 16, 71, 72, 73]), (22, [0, 2, 4, 9, 10, 11, 14, 15, 16, 71, 72, 73]), (23, [0, 2, 4, 9, 10, 14, 15, 16, 71, 72, 73]), (24, [0, 2, 4, 9, 14, 15, 16, 71, 72, 73]), (25, [0, 2, 4, 9, 14, 15, 16]), (26, [0, 2, 4, 14, 15, 16]), (27, [2, 4])]
noncomputable def s20 : SCode := toS (planAt pl20) (keepAt kp20) (Tryd.f20.body.getD .skip)
theorem fn20 : FnIs Tryd.prog 20 123 [.cell 2 27, .tmp 3] s20 := FnIs.mk' (planAt pl20) (keepAt kp20) (by kernel_rfl)
def pl23 : List (Nat × Plan) := [(9, (.fl 0 (.fl 1 (.fl 2 (.fl 3 (.fl 4 (.fl 5 .done)))))))]
def kp23 : List (Nat × List Nat) := [(0, [0]), (1, [0]), (2, [4]), (3, [4, 5]), (4, [4, 5]), (5, [4, 5]), (6, [4, 5]), (7, [4, 5]), (8, [4, 5]), (9, [4]), (10, [5])]
noncomputable def s23 : SCode := toS (planAt pl23) (keepAt kp23) (Tryd.f23.body.getD .skip)
theorem fn23 : FnIs Tryd.prog 23 32 [.tmp 2, .tmp 3] s23 := FnIs.mk' (planAt pl23) (keepAt kp23) (by kernel_rfl)
def pl24 : List (Nat × Plan) := []
def kp24 : List (Nat × List Nat) := [(0, [0]), (1, [1])]
noncomputable def s24 : SCode := toS (planAt pl24) (keepAt kp24) (Tryd.f24.body.getD .skip)
theorem fn24 : FnIs Tryd.prog 24 6 [.tmp 2] s24 := FnIs.mk' (planAt pl24) (keepAt kp24) (by kernel_rfl)
def pl26 : List (Nat × Plan) := []
def kp26 : List (Nat × List Nat) := [(0, [0, 1]), (1, [2, 3, 4])]
noncomputable def s26 : SCode := toS (planAt pl26) (keepAt kp26) (Tryd.f26.body.getD .skip)
theorem fn26 : FnIs Tryd.prog 26 12 [.cell 4 36, .tmp 5] s26 := FnIs.mk' (planAt pl26) (keepAt kp26) (by kernel_rfl)
def pl40 : List (Nat × Plan) := []
def kp40 : List (Nat × List Nat) := [(0, [0]), (1, [1]), (2, [1, 5, 6, 7]), (3, [1, 5, 6, 7]), (4, [1, 4, 5, 6, 7]), (5, []), (6, [1, 5, 6, 7]), (7, [])]
noncomputable def s40 : SCode := toS (planAt pl40) (keepAt kp40) (Tryd.f40.body.getD .skip)
theorem fn40 : FnIs Tryd.prog 40 16 [.tmp 2] s40 := FnIs.mk' (planAt pl40) (keepAt kp40) (by kernel_rfl)
def pl41 : List (Nat × Plan) := [(4, (.fl 0 (.fl 1 (.fl 3 (.fl 4 (.eff 2 [4] (.eff 5 [] (.fl 6 (.fl 7 .done)))))))))]
def kp41 : List (Nat × List Nat) := [(0, [0]), (1, [1]), (2, [1, 3]), (3, [1, 3, 9]), (4, [1]), (5, [1, 3, 9]), (6, [1]), (7, [1, 3, 9]), (8, [1]), (9, [1, 3]), (10, [1, 3, 27, 28, 29]), (11, [1, 3, 27, 28, 29]), (12, [1, 3, 5, 27, 28, 29]), (13, [1, 3, 27, 28, 29]), (14, [1, 3]), (15, [3, 39, 40, 41]), (16, [3, 39, 40, 41]), (17, [3, 7, 39, 40, 41]), (18, [3, 39, 40, 41]), (19, [3])]
noncomputable def s41 : SCode := toS (planAt pl41) (keepAt kp41) (Tryd.f41.body.getD .skip)
theorem fn41 : FnIs Tryd.prog 41 51 [.tmp 2] s41 := FnIs.mk' (planAt pl41) (keepAt kp41) (by kernel_rfl)
def pl42 : List (Nat × Plan) := []
def kp42 : List (Nat × List Nat) := [(0, [0]), (1, [1]), (2, [1, 3]), (3, [1]), (4, [1, 3]), (5, [3, 10, 11, 12]), (6, [3, 10, 11, 12]), (7, [3, 5, 10, 11, 12]), (8, [3, 10, 11, 12]), (9, [3])]
noncomputable def s42 : SCode := toS (planAt pl42) (keepAt kp42) (Tryd.f42.body.getD .skip)
theorem fn42 : FnIs Tryd.prog 42 22 [.tmp 2] s42 := FnIs.mk' (planAt pl42) (keepAt kp42) (by kernel_rfl)
def pl43 : List (Nat × Plan) := []
def kp43 : List (Nat × List Nat) := [(0, [0]), (1, [1]), (2, [1, 3]), (3, [1]), (4, [1, 3]), (5, [3, 20, 21, 22]), (6, [3, 20, 21, 22]), (7, [3, 5, 20, 21, 22]), (8, [3, 20, 21, 22]), (9, [3])]
noncomputable def s43 : SCode := toS (planAt pl43) (keepAt kp43) (Tryd.f43.body.getD .skip)
theorem fn43 : FnIs Tryd.prog 43 32 [.tmp 2] s43 := FnIs.mk' (planAt pl43) (keepAt kp43) (by kernel_rfl)
def pl44 : List (Nat × Plan) := []
def kp44 : List (Nat × List Nat) := [(0, [0]), (1, [1]), (2, [1, 3]), (3, [3])]
noncomputable def s44 : SCode := toS (planAt pl44) (keepAt kp44) (Tryd.f44.body.getD .skip)
theorem fn44 : FnIs Tryd.prog 44 10 [.tmp 2] s44 := FnIs.mk' (planAt pl44) (keepAt kp44) (by kernel_rfl)
def pl46 : List (Nat × Plan) := [(5, (.fl 0 (.fl 1 (.fl 2 (.fl 3 (.fl 4 (.fl 5 (.eff 6 [] (.fl 7 (.fl 8 (.fl 9 (.fl 10 (.fl 11 .done))))))))))))), (7, (.fl 0 (.fl 1 (.fl 2 (.fl 3 (.fl 4 (.fl 5 (.fl 6 (.eff 7 [] .done))))))))), (25, (.fl 0 (.fl 1 (.fl 2 (.fl 3 (.fl 4 (.fl 5 (.fl 6 (.eff 7 [] (.eff 8 [] (.eff 9 [] .done)))))))))))]
def kp46 : List (Nat × List Nat) := [(0, [0, 1, 2]), (1, [0, 1, 5]), (2, [0, 1, 5, 16]), (3, [0, 1, 5]), (4, []), (5, [0, 1, 5]), (6, [0, 1, 5, 7, 8]), (7, [0, 1, 5]), (8, []), (9, [1, 7]), (10, [0, 1, 5, 16]), (11, [1, 5]), (12, [0, 1, 5]), (13, [0, 1, 5, 9]), (14, [0, 1, 5, 9, 57, 58, 59]), (15, [0, 1, 5, 9, 57, 58, 59]), (16, [0, 1, 5, 9, 10, 11, 57, 58, 59]), (17, [0, 1, 5, 9, 10, 11, 57, 58, 59]), (18, [0, 1, 5, 9, 10, 57, 58, 59]), (19, [0, 1, 5, 9, 57, 58, 59]), (20, [0, 1, 5, 9]), (21, [0, 5, 9, 12]), (22, [0, 9, 12, 87, 88, 89]), (23, [0, 9, 12, 87, 88, 89]), (24, [0, 9, 12, 13, 14, 87, 88, 89]), (25, [0, 9, 12, 13, 14, 87, 88, 89]), (26, [0, 9, 12, 87, 88, 89]), (27, [12])]
noncomputable def s46 : SCode := toS (planAt pl46) (keepAt kp46) (Tryd.f46.body.getD .skip)
theorem fn46 : FnIs Tryd.prog 46 108 [.tmp 6] s46 := FnIs.mk' (planAt pl46) (keepAt kp46) (by kernel_rfl)
def pl47 : List (Nat × Plan) := []
def kp47 : List (Nat × List Nat) := [(0, [0]), (1, [0, 2]), (2, [0, 2, 4]), (3, [2]), (4, [0, 2, 4]), (5, [0, 2]), (6, [0, 2])]
noncomputable def s47 : SCode := toS (planAt pl47) (keepAt kp47) (Tryd.f47.body.getD .skip)
theorem fn47 : FnIs Tryd.prog 47 15 [.cell 2 39] s47 := FnIs.mk' (planAt pl47) (keepAt kp47) (by kernel_rfl)
def pl48 : List (Nat × Plan) := []
def kp48 : List (Nat × List Nat) := [(0, [0, 1]), (1, [0, 3]), (2, [0, 3, 18]), (3, []), (4, [0, 3, 18]), (5, [0, 3]), (6, [0, 3, 18]), (7, [0, 3]), (8, [0, 3, 5]), (9, [0, 3, 5, 6]), (10, [0, 3, 5, 6, 38, 39, 40]), (11, [0, 3, 5, 6, 38, 39, 40]), (12, [0, 3, 5, 6, 7, 8, 38, 39, 40]), (13, [0, 3, 5, 6, 7, 9, 10, 38, 39, 40]), (14, [0, 3, 5, 6, 10, 38, 39, 40]), (15, [0, 3, 5, 6, 38, 39, 40]), (16, [3, 5, 6]), (17, [0, 3, 18]), (18, [0, 3]), (19, [11, 12]), (20, [0, 3, 18]), (21, [0, 3]), (22, [0, 3, 13]), (23, [0, 13, 86, 87, 88]), (24, [0, 13, 86, 87, 88]), (25, [0, 13, 15, 86, 87, 88]), (26, [0, 13, 86, 87, 88]), (27, [13]), (28, [0, 3, 18]), (29, [0, 3]), (30, [0, 3, 18]), (31, [0, 3]), (32, [0, 3, 18]), (33, [0, 3]), (34, [0, 3, 16]), (35, [])]
noncomputable def s48 : SCode := toS (planAt pl48) (keepAt kp48) (Tryd.f48.body.getD .skip)
theorem fn48 : FnIs Tryd.prog 48 128 [.tmp 4] s48 := FnIs.mk' (planAt pl48) (keepAt kp48) (by kernel_rfl)
def pl50 : List (Nat × Plan) := []
def kp50 : List (Nat × List Nat) := [(0, []), (1, []), (2, [1]), (3, [1, 2]), (4, [1, 2, 8, 9, 10]), (5, [1, 2, 8, 9, 10]), (6, [1, 2, 4, 8, 9, 10]), (7, [1, 2, 8, 9, 10]), (8, [1, 2]), (9, [1, 2, 28, 29, 30]), (10, [1, 2, 28, 29, 30]), (11, [1, 2, 6, 28, 29, 30]), (12, [1, 2, 28, 29, 30]), (13, [2])]
noncomputable def s50 : SCode := toS (planAt pl50) (keepAt kp50) (Tryd.f50.body.getD .skip)
theorem fn50 : FnIs Tryd.prog 50 48 [.tmp 0] s50 := FnIs.mk' (planAt pl50) (keepAt kp50) (by kernel_rfl)
def pl54 : List (Nat × Plan) := []
def kp54 : List (Nat × List Nat) := [(0, []), (1, []), (2, [1]), (3, [1, 7, 8, 9]), (4, [1, 7, 8, 9]), (5, [1, 2, 3, 7, 8, 9]), (6, [1, 2, 4, 7, 8, 9]), (7, [1, 4, 7, 8, 9]), (8, [1, 4, 7, 8, 9]), (9, [1, 4, 7, 8, 9]), (10, [1, 4, 5, 7, 8, 9]), (11, [1, 4, 5, 7, 8, 9]), (12, [1, 4, 5, 7, 8, 9]), (13, [1, 4, 7, 8, 9]), (14, [1, 7, 8, 9]), (15, [1])]
noncomputable def s54 : SCode := toS (planAt pl54) (keepAt kp54) (Tryd.f54.body.getD .skip)
theorem fn54 : FnIs Tryd.prog 54 47 [.tmp 0] s54 := FnIs.mk' (planAt pl54) (keepAt kp54) (by kernel_rfl)
def pl55 : List (Nat × Plan) := [(41, (.fl 0 (.fl 1 (.fl 2 (.fl 3 (.fl 4 (.fl 5 (.fl 6 (.fl 7 (.fl 8 (.fl 9 (.fl 11 (.eff 10 [11] (.fl 12 (.fl 13 (.fl 14 (.fl 15 (.fl 16 (.fl 17 (.fl 18 (.eff 19 [] (.fl 20 .done))))))))))))))))))))))]
def kp55 : List (Nat × List Nat) := [(0, [0, 1]), (1, [0, 1]), (2, [0, 1, 5]), (3, [0, 1, 5, 6]), (4, [0, 1, 5, 6, 28]), (5, [0, 5]), (6, [0, 5, 8]), (7, []), (8, [0, 5]), (9, [0, 5, 41, 42, 43]), (10, [0, 5, 41, 42, 43]), (11, [0, 5, 9, 10, 41, 42, 43]), (12, []), (13, [0, 5, 41, 42, 43]), (14, [0, 5]), (15, [0, 5, 56, 57, 58]), (16, [0, 5, 56, 57, 58]), (17, [0, 5, 12, 56, 57, 58]), (18, []), (19, [0, 5, 12, 56, 57, 58]), (20, [0, 5, 56, 57, 58, 72, 73, 74]), (21, [0, 5, 56, 57, 58, 72, 73, 74]), (22, [0, 5, 14, 56, 57, 58, 72, 73, 74]), (23, []), (24, [0, 5, 56, 57, 58, 72, 73, 74]), (25, [0, 5, 56, 57, 58]), (26, [0, 1, 5, 6, 28]), (27, [0, 5, 6]), (28, []), (29, [0, 5]), (30, [0, 103, 104, 105]), (31, [0, 103, 104, 105]), (32, [0, 16, 103, 104, 105]), (33, []), (34, [0, 103, 104, 105]), (35, [0, 1, 5, 6, 28]), (36, [0, 1, 5, 6]), (37, []), (38, [0, 1, 5, 6]), (39, [1, 5, 6, 124, 125, 126]), (40, [1, 5, 6, 124, 125, 126]), (41, [1, 5, 6, 17, 18, 124, 125, 126]), (42, []), (43, [1, 5, 6, 124, 125, 126]), (44, [0, 5, 6, 28]), (45, [0, 5, 6]), (46, []), (47, [0, 5]), (48, [0, 171, 172, 173]), (49, [0, 171, 172, 173]), (50, [0, 20, 171, 172, 173]), (51, []), (52, [0, 171, 172, 173]), (53, [])]
noncomputable def s55 : SCode := toS (planAt pl55) (keepAt kp55) (Tryd.f55.body.getD .skip)
theorem fn55 : FnIs Tryd.prog 55 182 [.tmp 4] s55 := FnIs.mk' (planAt pl55) (keepAt kp55) (by kernel_rfl)
def pl56 : List (Nat × Plan) := []
def kp56 : List (Nat × List Nat) := [(0, [0]), (1, [1, 2]), (2, [1, 2, 4]), (3, [1, 2]), (4, [1, 2, 4]), (5, [1, 2]), (6, [1, 2])]
noncomputable def s56 : SCode := toS (planAt pl56) (keepAt kp56) (Tryd.f56.body.getD .skip)
theorem fn56 : FnIs Tryd.prog 56 27 [.cell 2 31] s56 := FnIs.mk' (planAt pl56) (keepAt kp56) (by kernel_rfl)
def pl58 : List (Nat × Plan) := []
def kp58 : List (Nat × List Nat) := [(0, [0]), (1, [0]), (2, [3, 4])]
noncomputable def s58 : SCode := toS (planAt pl58) (keepAt kp58) (Tryd.f58.body.getD .skip)
theorem fn58 : FnIs Tryd.prog 58 14 [.tmp 2] s58 := FnIs.mk' (planAt pl58) (keepAt kp58) (by kernel_rfl)
def pl59 : List (Nat × Plan) := [(1, (.fl 0 (.fl 1 (.fl 2 (.fl 3 (.fl 4 (.fl 5 (.fl 6 (.fl 7 (.fl 8 (.fl 9 (.fl 10 (.fl 11 (.fl 12 (.fl 13 (.fl 14 (.fl 15 (.fl 16 (.fl 17 .done)))))))))))))))))))]
def kp59 : List (Nat × List Nat) := [(0, [0]), (1, [0])]
noncomputable def s59 : SCode := toS (planAt pl59) (keepAt kp59) (Tryd.f59.body.getD .skip)
theorem fn59 : FnIs Tryd.prog 59 20 [.tmp 2] s59 := FnIs.mk' (planAt pl59) (keepAt kp59) (by kernel_rfl)
def pl60 : List (Nat × Plan) := []
def kp60 : List (Nat × List Nat) := [(0, [0, 1]), (1, [0, 1])]
noncomputable def s60 : SCode := toS (planAt pl60) (keepAt kp60) (Tryd.f60.body.getD .skip)
theorem fn60 : FnIs Tryd.prog 60 13 [] s60 := FnIs.mk' (planAt pl60) (keepAt kp60) (by kernel_rfl)
def pl61 : List (Nat × Plan) := [(13, (.fl 0 (.fl 1 (.fl 2 (.eff 3 [1] (.eff 4 [1] (.eff 5 [] (.fl 6 (.eff 7 [] .done))))))))), (15, (.fl 0 (.fl 1 (.fl 2 (.eff 3 [1] (.eff 4 [1] (.eff 5 [] (.fl 6 (.eff 7 [] .done))))))))), (17, (.fl 0 (.fl 1 (.fl 2 (.eff 3 [1] (.eff 4 [1] (.eff 5 [] (.fl 6 (.eff 7 [] .done))))))))), (22, (.fl 0 (.fl 1 (.fl 2 (.eff 3 [1] (.eff 4 [1] (.eff 5 [] (.fl 6 (.eff 7 [] .done))))))))), (5, (.fl 0 (.fl 1 (.fl 2 (.eff 3 [1] (.eff 4 [1] (.eff 5 [] (.fl 6 (.eff 7 [] .done)))))))))]
def kp61 : List (Nat × List Nat) := [(0, [0]), (1, [0, 2]), (2, [0, 2, 3]), (3, [0, 2, 3]), (4, [0, 2, 3]), (5, [0, 2, 3]), (6, [0, 2, 3]), (7, [0, 2, 3]), (8, [0, 2, 3]), (9, [0, 2, 3]), (10, [0, 2, 3]), (11, [0, 2, 3]), (12, [0, 2, 3]), (13, [0, 2, 3]), (14, [0, 2, 3]), (15, [0, 2, 3]), (16, [0, 2, 3]), (17, [0, 2, 3]), (18, [0, 2, 3]), (19, [0, 2, 3]), (20, [0, 2, 3]), (21, [0, 2, 3]), (22, [0, 2, 3]), (23, [0, 2, 3]), (24, [0, 2, 3]), (25, [0, 2, 3]), (26, [0, 2, 3]), (27, [0, 2, 3]), (28, [0, 2, 3, 4]), (29, [0, 2, 3, 4]), (30, [0, 2, 3, 4]), (31, [0, 2, 3]), (32, [0, 2, 3]), (33, [0, 2, 3]), (34, [2, 3]), (35, [0, 2, 3]), (36, [2, 3]), (37, [0, 2, 3]), (38, [2, 3]), (39, [0, 2, 3]), (40, [2, 3]), (41, [2, 3])]
noncomputable def s61 : SCode := toS (planAt pl61) (keepAt kp61) (Tryd.f61.body.getD .skip)
theorem fn61 : FnIs Tryd.prog 61 158 [.cell 2 68] s61 := FnIs.mk' (planAt pl61) (keepAt kp61) (by kernel_rfl)
def pl62 : List (Nat × Plan) := []
def kp62 : List (Nat × List Nat) := [(0, [0, 1]), (1, [0])]
noncomputable def s62 : SCode := toS (planAt pl62) (keepAt kp62) (Tryd.f62.body.getD .skip)
theorem fn62 : FnIs Tryd.prog 62 17 [] s62 := FnIs.mk' (planAt pl62) (keepAt kp62) (by kernel_rfl)
def pl63 : List (Nat × Plan) := [(1, (.fl 0 (.fl 1 (.fl 2 (.fl 3 (.fl 4 (.fl 5 (.fl 6 (.fl 7 (.fl 8 (.fl 9 (.fl 10 (.fl 11 (.fl 12 (.fl 13 (.fl 14 (.fl 15 (.fl 16 .done))))))))))))))))))]
def kp63 : List (Nat × List Nat) := [(0, [0]), (1, [0]), (2, [0]), (3, [0])]
noncomputable def s63 : SCode := toS (planAt pl63) (keepAt kp63) (Tryd.f63.body.getD .skip)
theorem fn63 : FnIs Tryd.prog 63 27 [.tmp 2] s63 := FnIs.mk' (planAt pl63) (keepAt kp63) (by kernel_rfl)
def pl64 : List (Nat × Plan) := []
def kp64 : List (Nat × List Nat) := [(0, [0, 1]), (1, [0, 1])]
noncomputable def s64 : SCode := toS (planAt pl64) (keepAt kp64) (Tryd.f64.body.getD .skip)
theorem fn64 : FnIs Tryd.prog 64 9 [.tmp 4] s64 := FnIs.mk' (planAt pl64) (keepAt kp64) (by kernel_rfl)
def pl65 : List (Nat × Plan) := []
def kp65 : List (Nat × List Nat) := [(0, [0, 1]), (1, [1, 2])]
noncomputable def s65 : SCode := toS (planAt pl65) (keepAt kp65) (Tryd.f65.body.getD .skip)
theorem fn65 : FnIs Tryd.prog 65 8 [.tmp 3] s65 := FnIs.mk' (planAt pl65) (keepAt kp65) (by kernel_rfl)
def pl66 : List (Nat × Plan) := []
def kp66 : List (Nat × List Nat) := [(0, [0, 1, 2]), (1, [0, 4, 5, 6]), (2, [0, 6, 8]), (3, [6]), (4, [6, 9]), (5, [0, 6, 8])]
noncomputable def s66 : SCode := toS (planAt pl66) (keepAt kp66) (Tryd.f66.body.getD .skip)
theorem fn66 : FnIs Tryd.prog 66 20 [.cell 6 36, .tmp 7] s66 := FnIs.mk' (planAt pl66) (keepAt kp66) (by kernel_rfl)
def pl67 : List (Nat × Plan) := []
def kp67 : List (Nat × List Nat) := [(0, [0]), (1, [1, 2])]
noncomputable def s67 : SCode := toS (planAt pl67) (keepAt kp67) (Tryd.f67.body.getD .skip)
theorem fn67 : FnIs Tryd.prog 67 5 [.cell 2 31] s67 := FnIs.mk' (planAt pl67) (keepAt kp67) (by kernel_rfl)
def pl81 : List (Nat × Plan) := [(6, (.fl 0 (.fl 1 (.fl 2 (.fl 3 (.fl 4 (.fl 5 (.fl 6 (.fl 7 (.fl 8 .done))))))))))]
def kp81 : List (Nat × List Nat) := [(0, [0, 1]), (1, [0, 1]), (2, []), (3, [0, 1]), (4, [0, 1, 12, 13]), (5, [0, 1, 12, 13]), (6, [0, 1, 5, 12, 13]), (7, []), (8, [0, 1, 12, 13]), (9, [])]
noncomputable def s81 : SCode := toS (planAt pl81) (keepAt kp81) (Tryd.f81.body.getD .skip)
theorem fn81 : FnIs Tryd.prog 81 26 [.tmp 4] s81 := FnIs.mk' (planAt pl81) (keepAt kp81) (by kernel_rfl)
def pl85 : List (Nat × Plan) := []
def kp85 : List (Nat × List Nat) := [(0, [0, 1, 2]), (1, [1, 2, 3]), (2, [1, 2, 3, 12, 13, 14]), (3, [1, 2, 3, 12, 13, 14]), (4, [1, 2, 3, 8, 12, 13, 14]), (5, [1, 2, 3, 8, 12, 13, 14]), (6, [1, 2, 3, 8, 12, 13, 14]), (7, []), (8, [1, 2, 3, 12, 13, 14]), (9, [1, 2, 3]), (10, [1, 2, 29, 30, 31]), (11, [1, 2, 29, 30, 31]), (12, [1, 2, 10, 29, 30, 31]), (13, []), (14, [1, 2, 29, 30, 31]), (15, [])]
noncomputable def s85 : SCode := toS (planAt pl85) (keepAt kp85) (Tryd.f85.body.getD .skip)
theorem fn85 : FnIs Tryd.prog 85 41 [.tmp 6] s85 := FnIs.mk' (planAt pl85) (keepAt kp85) (by kernel_rfl)
def pl86 : List (Nat × Plan) := []
def kp86 : List (Nat × List Nat) := [(0, [0, 1]), (1, [0, 1]), (2, [])]
noncomputable def s86 : SCode := toS (planAt pl86) (keepAt kp86) (Tryd.f86.body.getD .skip)
theorem fn86 : FnIs Tryd.prog 86 8 [.tmp 3] s86 := FnIs.mk' (planAt pl86) (keepAt kp86) (by kernel_rfl)
def pl87 : List (Nat × Plan) := []
def kp87 : List (Nat × List Nat) := [(0, [0]), (1, [1])]
noncomputable def s87 : SCode := toS (planAt pl87) (keepAt kp87) (Tryd.f87.body.getD .skip)
theorem fn87 : FnIs Tryd.prog 87 4 [.tmp 2] s87 := FnIs.mk' (planAt pl87) (keepAt kp87) (by kernel_rfl)
def pl89 : List (Nat × Plan) := []
def kp89 : List (Nat × List Nat) := [(0, [0, 1]), (1, [0, 1]), (2, [0]), (3, [0, 1]), (4, [0, 1, 5, 6]), (5, [0, 1]), (6, [0, 1, 5]), (7, [5])]
noncomputable def s89 : SCode := toS (planAt pl89) (keepAt kp89) (Tryd.f89.body.getD .skip)
theorem fn89 : FnIs Tryd.prog 89 31 [.tmp 4] s89 := FnIs.mk' (planAt pl89) (keepAt kp89) (by kernel_rfl)
def pl90 : List (Nat × Plan) := []
def kp90 : List (Nat × List Nat) := [(0, [0]), (1, [0]), (2, [0])]
noncomputable def s90 : SCode := toS (planAt pl90) (keepAt kp90) (Tryd.f90.body.getD .skip)
theorem fn90 : FnIs Tryd.prog 90 15 [.tmp 2] s90 := FnIs.mk' (planAt pl90) (keepAt kp90) (by kernel_rfl)
def pl91 : List (Nat × Plan) := []
def kp91 : List (Nat × List Nat) := [(0, [0]), (1, [1, 2])]
noncomputable def s91 : SCode := toS (planAt pl91) (keepAt kp91) (Tryd.f91.body.getD .skip)
theorem fn91 : FnIs Tryd.prog 91 9 [.cell 2 31] s91 := FnIs.mk' (planAt pl91) (keepAt kp91) (by kernel_rfl)
def pl92 : List (Nat × Plan) := [(1, (.fl 0 (.fl 1 (.fl 2 (.fl 3 (.fl 4 (.fl 5 (.fl 6 (.fl 7 .done))))))))), (8, (.fl 0 (.fl 1 (.fl 2 (.fl 3 (.fl 5 (.eff 4 [5] (.eff 6 [] (.fl 7 .done))))))))), (10, (.fl 0 (.fl 1 (.fl 2 (.fl 3 (.fl 5 (.eff 4 [5] (.eff 6 [] (.fl 7 .done))))))))), (12, (.fl 0 (.fl 1 (.fl 2 (.fl 4 (.fl 5 (.fl 6 (.eff 3 [6] (.eff 7 [] (.eff 8 [] (.fl 9 .done)))))))))))]
def kp92 : List (Nat × List Nat) := [(0, [0, 1, 2]), (1, [0, 4, 5]), (2, [0, 4, 5, 7, 8]), (3, [0, 4, 5]), (4, []), (5, [0, 4, 5]), (6, [0, 5, 9]), (7, [0, 4, 5, 7, 8]), (8, [0, 4, 5]), (9, [0, 4, 5, 8]), (10, [0, 4, 5]), (11, [0, 4, 5]), (12, [0, 4, 5, 10])]
noncomputable def s92 : SCode := toS (planAt pl92) (keepAt kp92) (Tryd.f92.body.getD .skip)
theorem fn92 : FnIs Tryd.prog 92 70 [.tmp 6] s92 := FnIs.mk' (planAt pl92) (keepAt kp92) (by kernel_rfl)
def pl93 : List (Nat × Plan) := []
def kp93 : List (Nat × List Nat) := [(0, [0, 1]), (1, [0, 3]), (2, [0, 3]), (3, [0, 3]), (4, [0, 3, 6])]
noncomputable def s93 : SCode := toS (planAt pl93) (keepAt kp93) (Tryd.f93.body.getD .skip)
theorem fn93 : FnIs Tryd.prog 93 21 [.tmp 4, .tmp 5] s93 := FnIs.mk' (planAt pl93) (keepAt kp93) (by kernel_rfl)
def pl94 : List (Nat × Plan) := []
def kp94 : List (Nat × List Nat) := [(0, [0, 1]), (1, [0, 1]), (2, [0, 1, 5]), (3, [0, 5, 8, 9, 10]), (4, [0, 5, 8, 9, 10]), (5, [0, 5, 7, 8, 9, 10]), (6, [0, 5, 8, 9, 10]), (7, [5])]
noncomputable def s94 : SCode := toS (planAt pl94) (keepAt kp94) (Tryd.f94.body.getD .skip)
theorem fn94 : FnIs Tryd.prog 94 23 [.tmp 4] s94 := FnIs.mk' (planAt pl94) (keepAt kp94) (by kernel_rfl)
def pl102 : List (Nat × Plan) := []
def kp102 : List (Nat × List Nat) := [(0, [0, 1, 2]), (1, [0, 1, 2]), (2, [0, 1, 2, 8, 9]), (3, [1, 2, 8, 9, 12, 13, 14]), (4, [1, 2, 8, 9, 12, 13, 14]), (5, [1, 2, 8, 9, 11, 12, 13, 14]), (6, [1, 2, 8, 9, 11, 12, 13, 14]), (7, [1, 2, 8, 9, 11, 12, 13, 14]), (8, [1, 2, 8, 9, 12, 13, 14]), (9, [1, 2, 8, 9, 12, 13, 14]), (10, [8, 9])]
noncomputable def s102 : SCode := toS (planAt pl102) (keepAt kp102) (Tryd.f102.body.getD .skip)
theorem fn102 : FnIs Tryd.prog 102 39 [.tmp 6, .tmp 7] s102 := FnIs.mk' (planAt pl102) (keepAt kp102) (by kernel_rfl)
def pl103 : List (Nat × Plan) := []
def kp103 : List (Nat × List Nat) := [(0, [0, 1]), (1, [0, 1]), (2, [1, 7, 8, 9]), (3, [1, 7, 8, 9]), (4, [1, 6, 7, 8, 9]), (5, []), (6, [1, 7, 8, 9]), (7, [])]
noncomputable def s103 : SCode := toS (planAt pl103) (keepAt kp103) (Tryd.f103.body.getD .skip)
theorem fn103 : FnIs Tryd.prog 103 17 [.tmp 4] s103 := FnIs.mk' (planAt pl103) (keepAt kp103) (by kernel_rfl)
def pl104 : List (Nat × Plan) := []
def kp104 : List (Nat × List Nat) := [(0, [0, 1]), (1, [0, 3]), (2, [0, 3, 5]), (3, [3, 5, 10, 11, 12]), (4, [3, 5, 10, 11, 12]), (5, [3, 5, 7, 10, 11, 12]), (6, [3, 5, 7, 10, 11, 12]), (7, [3, 5, 10, 11, 12, 20, 21, 22]), (8, [3, 5, 10, 11, 12, 20, 21, 22]), (9, [3, 5, 9, 10, 11, 12, 20, 21, 22]), (10, [3, 5, 10, 11, 12, 20, 21, 22]), (11, [3, 5, 10, 11, 12, 20, 21, 22]), (12, [3, 5, 10, 11, 12]), (13, [5])]
noncomputable def s104 : SCode := toS (planAt pl104) (keepAt kp104) (Tryd.f104.body.getD .skip)
theorem fn104 : FnIs Tryd.prog 104 44 [.tmp 4] s104 := FnIs.mk' (planAt pl104) (keepAt kp104) (by kernel_rfl)
def pl105 : List (Nat × Plan) := []
def kp105 : List (Nat × List Nat) := [(0, [0, 1, 2, 3]), (1, [0, 2, 3, 5]), (2, [2, 3, 5]), (3, [0, 2, 3, 5]), (4, [0, 2, 3, 5, 9]), (5, [0, 2, 3, 5, 11]), (6, [0, 2, 3, 11, 48, 49, 50]), (7, [0, 2, 3, 11, 48, 49, 50]), (8, [0, 2, 3, 11, 13, 48, 49, 50]), (9, [0, 2, 3, 11, 48, 49, 50]), (10, [11])]
noncomputable def s105 : SCode := toS (planAt pl105) (keepAt kp105) (Tryd.f105.body.getD .skip)
theorem fn105 : FnIs Tryd.prog 105 64 [.tmp 8] s105 := FnIs.mk' (planAt pl105) (keepAt kp105) (by kernel_rfl)
def pl106 : List (Nat × Plan) := [(5, (.fl 0 (.fl 1 (.fl 2 (.fl 3 (.fl 4 (.fl 5 (.fl 7 (.eff 6 [7] (.fl 8 (.fl 9 .done)))))))))))]
def kp106 : List (Nat × List Nat) := [(0, [0, 1, 2]), (1, [0, 1, 5]), (2, [0, 1, 5, 7]), (3, [1, 5, 7, 10, 11, 12]), (4, [1, 5, 7, 10, 11, 12]), (5, [1, 5, 7, 9, 10, 11, 12]), (6, [1, 5, 7, 10, 11, 12]), (7, [1, 5, 7, 10, 11, 12]), (8, [7])]
noncomputable def s106 : SCode := toS (planAt pl106) (keepAt kp106) (Tryd.f106.body.getD .skip)
theorem fn106 : FnIs Tryd.prog 106 30 [.tmp 6] s106 := FnIs.mk' (planAt pl106) (keepAt kp106) (by kernel_rfl)
def pl107 : List (Nat × Plan) := []
def kp107 : List (Nat × List Nat) := [(0, [0, 1]), (1, [0, 3]), (2, [0, 3, 5]), (3, [0, 3]), (4, [0, 3, 6]), (5, [0, 3, 5]), (6, [0, 3]), (7, [0, 3, 5]), (8, [0, 3]), (9, [0, 3, 5]), (10, [0, 3, 5, 49, 50, 51]), (11, [0, 3, 5, 49, 50, 51]), (12, [0, 3, 5, 8, 49, 50, 51]), (13, [0, 3, 5, 49, 50, 51]), (14, [0, 3, 5]), (15, [0, 5, 63, 64, 65]), (16, [0, 5, 63, 64, 65]), (17, [0, 5, 10, 63, 64, 65]), (18, [0, 5, 63, 64, 65]), (19, [5])]
noncomputable def s107 : SCode := toS (planAt pl107) (keepAt kp107) (Tryd.f107.body.getD .skip)
theorem fn107 : FnIs Tryd.prog 107 77 [.tmp 4] s107 := FnIs.mk' (planAt pl107) (keepAt kp107) (by kernel_rfl)
def pl108 : List (Nat × Plan) := []
def kp108 : List (Nat × List Nat) := [(0, [0, 1]), (1, [0, 3]), (2, [0, 3, 5]), (3, [0, 5, 23, 24, 25]), (4, [0, 5, 23, 24, 25]), (5, [0, 5, 7, 23, 24, 25]), (6, [0, 5, 23, 24, 25]), (7, [5])]
noncomputable def s108 : SCode := toS (planAt pl108) (keepAt kp108) (Tryd.f108.body.getD .skip)
theorem fn108 : FnIs Tryd.prog 108 37 [.tmp 4] s108 := FnIs.mk' (planAt pl108) (keepAt kp108) (by kernel_rfl)
def pl111 : List (Nat × Plan) := []
def kp111 : List (Nat × List Nat) := [(0, [0]), (1, [0]), (2, []), (3, [0]), (4, [5, 6]), (5, []), (6, [5])]
noncomputable def s111 : SCode := toS (planAt pl111) (keepAt kp111) (Tryd.f111.body.getD .skip)
theorem fn111 : FnIs Tryd.prog 111 19 [.tmp 2, .tmp 3] s111 := FnIs.mk' (planAt pl111) (keepAt kp111) (by kernel_rfl)
def pl112 : List (Nat × Plan) := []
def kp112 : List (Nat × List Nat) := [(0, [0, 1]), (1, [0, 1]), (2, [0]), (3, []), (4, [])]
noncomputable def s112 : SCode := toS (planAt pl112) (keepAt kp112) (Tryd.f112.body.getD .skip)
theorem fn112 : FnIs Tryd.prog 112 15 [.tmp 4] s112 := FnIs.mk' (planAt pl112) (keepAt kp112) (by kernel_rfl)
def pl113 : List (Nat × Plan) := [(1, (.fl 0 (.eff 1 [] (.fl 2 (.fl 3 (.fl 4 (.fl 5 (.fl 6 (.fl 7 (.fl 8 (.fl 9 (.fl 10 (.fl 11 (.fl 12 (.fl 13 (.fl 14 (.fl 15 (.fl 16 (.fl 17 (.fl 18 (.fl 19 (.fl 20 (.fl 21 (.fl 22 (.fl 23 (.fl 24 (.fl 25 (.fl 26 (.fl 27 (.fl 28 (.fl 29 (.fl 30 (.fl 31 (.eff 32 [] (.fl 33 (.fl 34 .done)))))))))))))))))))))))))))))))))))), (5, (.fl 0 (.fl 1 (.fl 2 (.fl 3 (.fl 4 (.fl 5 (.fl 6 (.fl 7 (.fl 8 (.fl 9 (.fl 10 (.fl 11 (.fl 12 .done))))))))))))))]
def kp113 : List (Nat × List Nat) := [(0, [0, 1]), (1, [0, 1]), (2, [0]), (3, []), (4, [0]), (5, [0])]
noncomputable def s113 : SCode := toS (planAt pl113) (keepAt kp113) (Tryd.f113.body.getD .skip)
theorem fn113 : FnIs Tryd.prog 113 61 [.tmp 4] s113 := FnIs.mk' (planAt pl113) (keepAt kp113) (by kernel_rfl)
def pl114 : List (Nat × Plan) := []
def kp114 : List (Nat × List Nat) := [(0, [0, 1]), (1, [0, 1]), (2, [0, 1]), (3, []), (4, [0, 1]), (5, []), (6, [0, 1]), (7, [0, 1]), (8, [0]), (9, [0])]
noncomputable def s114 : SCode := toS (planAt pl114) (keepAt kp114) (Tryd.f114.body.getD .skip)
theorem fn114 : FnIs Tryd.prog 114 35 [.tmp 4] s114 := FnIs.mk' (planAt pl114) (keepAt kp114) (by kernel_rfl)
def pl115 : List (Nat × Plan) := [(3, (.fl 0 (.fl 1 (.fl 2 (.eff 3 [1] (.eff 4 [1] (.eff 5 [] (.fl 6 (.eff 7 [] .done)))))))))]
def kp115 : List (Nat × List Nat) := [(0, [0]), (1, [0, 2]), (2, [0, 2, 3]), (3, [0, 2, 3]), (4, [2, 3])]
noncomputable def s115 : SCode := toS (planAt pl115) (keepAt kp115) (Tryd.f115.body.getD .skip)
theorem fn115 : FnIs Tryd.prog 115 27 [.cell 2 114] s115 := FnIs.mk' (planAt pl115) (keepAt kp115) (by kernel_rfl)
def pl116 : List (Nat × Plan) := [(2, (.fl 0 (.eff 1 [] (.fl 2 (.fl 3 (.fl 4 (.fl 5 (.fl 6 (.fl 7 (.fl 8 (.fl 9 (.fl 10 (.fl 11 (.fl 12 (.fl 13 (.fl 14 (.fl 15 (.fl 16 .done)))))))))))))))))), (4, (.fl 0 (.fl 1 (.fl 2 (.fl 3 (.fl 4 (.fl 5 (.fl 6 (.fl 7 (.fl 8 (.fl 9 (.fl 10 (.fl 11 (.eff 12 [] (.eff 13 [] .done))))))))))))))), (9, (.fl 0 (.fl 1 (.fl 2 (.fl 3 (.fl 4 (.eff 5 [1] (.eff 6 [1] (.eff 7 [] (.fl 8 (.eff 9 [] .done)))))))))))]
def kp116 : List (Nat × List Nat) := [(0, [0, 1]), (1, [0, 1, 4]), (2, [0, 1, 4]), (3, [0, 4]), (4, [0, 4]), (5, [0, 1, 4]), (6, [4]), (7, [0, 1, 4]), (8, [0, 1, 4, 5]), (9, [0, 1, 4, 5]), (10, [4, 5])]
noncomputable def s116 : SCode := toS (planAt pl116) (keepAt kp116) (Tryd.f116.body.getD .skip)
theorem fn116 : FnIs Tryd.prog 116 74 [.cell 4 135] s116 := FnIs.mk' (planAt pl116) (keepAt kp116) (by kernel_rfl)
def pl117 : List (Nat × Plan) := [(2, (.fl 0 (.eff 1 [] (.fl 2 (.fl 3 (.fl 4 (.fl 5 (.fl 6 (.fl 7 (.fl 8 (.fl 9 (.fl 10 (.fl 11 (.fl 12 (.fl 13 (.fl 14 (.fl 15 (.fl 16 .done)))))))))))))))))), (4, (.fl 0 (.fl 1 (.fl 2 (.fl 3 (.fl 4 (.fl 5 (.fl 6 (.fl 7 (.fl 8 (.fl 9 (.fl 10 (.fl 11 (.eff 12 [] (.eff 13 [] .done))))))))))))))), (5, (.fl 0 (.eff 1 [] (.fl 2 (.fl 3 (.fl 4 (.fl 5 (.fl 6 (.fl 7 (.fl 8 (.fl 9 (.fl 10 (.fl 11 (.fl 12 (.fl 13 (.fl 14 (.fl 15 (.fl 16 .done)))))))))))))))))), (7, (.fl 0 (.fl 1 (.fl 2 (.fl 3 (.fl 4 (.fl 5 (.fl 6 (.fl 7 (.fl 8 (.fl 9 (.fl 10 (.fl 11 (.eff 12 [] (.eff 13 [] .done))))))))))))))), (10, (.fl 0 (.fl 1 (.fl 2 (.fl 3 (.fl 4 (.eff 5 [1] (.eff 6 [1] (.eff 7 [] (.fl 8 (.eff 9 [] .done)))))))))))]
def kp117 : List (Nat × List Nat) := [(0, [0, 1]), (1, [0, 1, 4]), (2, [0, 1, 4]), (3, [0, 4]), (4, [0, 4]), (5, [0, 1, 4]), (6, [0, 4]), (7, [0, 4]), (8, [0, 1, 4]), (9, [0, 1, 4, 5]), (10, [0, 1, 4, 5]), (11, [4, 5])]
noncomputable def s117 : SCode := toS (planAt pl117) (keepAt kp117) (Tryd.f117.body.getD .skip)
theorem fn117 : FnIs Tryd.prog 117 108 [.cell 4 63] s117 := FnIs.mk' (planAt pl117) (keepAt kp117) (by kernel_rfl)
def pl118 : List (Nat × Plan) := []
def kp118 : List (Nat × List Nat) := [(0, [0, 1]), (1, [0, 1, 4]), (2, [0, 1, 4, 5]), (3, [0, 1, 4, 5]), (4, [0, 1, 4, 5, 6]), (5, [0, 1, 4, 5, 6]), (6, [0, 1, 4, 5, 6]), (7, [0, 1, 4, 5, 6]), (8, [0, 1, 4, 5, 6]), (9, [0, 1, 4, 5]), (10, [4, 5]), (11, [4, 5]), (12, [4, 5])]
noncomputable def s118 : SCode := toS (planAt pl118) (keepAt kp118) (Tryd.f118.body.getD .skip)
theorem fn118 : FnIs Tryd.prog 118 50 [.cell 4 66] s118 := FnIs.mk' (planAt pl118) (keepAt kp118) (by kernel_rfl)
def pl119 : List (Nat × Plan) := []
def kp119 : List (Nat × List Nat) := [(0, [0, 1]), (1, [0, 1]), (2, [0, 1, 7, 8]), (3, [0, 1, 7, 8]), (4, [0, 1, 5, 7, 8]), (5, [5]), (6, [0, 1, 7, 8]), (7, [])]
noncomputable def s119 : SCode := toS (planAt pl119) (keepAt kp119) (Tryd.f119.body.getD .skip)
theorem fn119 : FnIs Tryd.prog 119 19 [.tmp 4] s119 := FnIs.mk' (planAt pl119) (keepAt kp119) (by kernel_rfl)
def pl120 : List (Nat × Plan) := [(1, (.fl 0 (.fl 1 (.fl 3 (.eff 2 [3] (.fl 4 (.fl 5 .done)))))))]
def kp120 : List (Nat × List Nat) := [(0, [0, 1, 2]), (1, [1, 2, 3])]
noncomputable def s120 : SCode := toS (planAt pl120) (keepAt kp120) (Tryd.f120.body.getD .skip)
theorem fn120 : FnIs Tryd.prog 120 10 [.tmp 4] s120 := FnIs.mk' (planAt pl120) (keepAt kp120) (by kernel_rfl)
def pl131 : List (Nat × Plan) := []
def kp131 : List (Nat × List Nat) := [(0, [0]), (1, [1]), (2, [1, 4]), (3, [1]), (4, [1, 4]), (5, [1, 4]), (6, [1, 4]), (7, [1]), (8, [1, 4]), (9, [1]), (10, [1, 4]), (11, [1]), (12, [])]
noncomputable def s131 : SCode := toS (planAt pl131) (keepAt kp131) (Tryd.f131.body.getD .skip)
theorem fn131 : FnIs Tryd.prog 131 31 [.tmp 2] s131 := FnIs.mk' (planAt pl131) (keepAt kp131) (by kernel_rfl)
def pl132 : List (Nat × Plan) := []
def kp132 : List (Nat × List Nat) := [(0, [0, 1]), (1, [0, 5, 6, 7]), (2, [0, 5, 6, 7]), (3, [0, 4, 5, 6, 7]), (4, [0, 5, 6, 7])]
noncomputable def s132 : SCode := toS (planAt pl132) (keepAt kp132) (Tryd.f132.body.getD .skip)
theorem fn132 : FnIs Tryd.prog 132 16 [] s132 := FnIs.mk' (planAt pl132) (keepAt kp132) (by kernel_rfl)
def pl137 : List (Nat × Plan) := [(9, (.fl 0 (.fl 1 (.fl 4 (.fl 5 (.both (.eff 2 [5] (.both (.eff 3 [5] (.eff 6 [] (.eff 7 [] (.eff 8 [] (.eff 9 [] .done))))) (.eff 6 [] (.eff 3 [5] (.eff 7 [] (.eff 8 [] (.eff 9 [] .done))))))) (.eff 6 [] (.eff 2 [5] (.eff 3 [5] (.eff 7 [] (.eff 8 [] (.eff 9 [] .done))))))))))))]
def kp137 : List (Nat × List Nat) := [(0, [0]), (1, [0]), (2, [0, 5, 6]), (3, [0, 5, 6, 7]), (4, [0, 5, 6, 7, 8]), (5, [0, 5, 6, 7, 8]), (6, [0, 5, 6, 7, 8]), (7, [0, 5, 6, 7, 8, 10, 11]), (8, [5, 6]), (9, [0, 5, 6, 7, 8, 10]), (10, [0, 5, 6, 7, 8, 10]), (11, [0, 5, 6, 7, 8, 9]), (12, [0, 5, 6, 8, 9]), (13, [0, 5, 6, 7, 8]), (14, [0, 5, 6, 7, 8, 9]), (15, [0, 5, 6, 7, 8]), (16, [0, 5, 6, 7, 8, 9]), (17, [0, 5, 6, 8]), (18, [0, 5, 6, 7, 8]), (19, [5, 6])]
noncomputable def s137 : SCode := toS (planAt pl137) (keepAt kp137) (Tryd.f137.body.getD .skip)
theorem fn137 : FnIs Tryd.prog 137 74 [.tmp 2, .tmp 3, .tmp 4] s137 := FnIs.mk' (planAt pl137) (keepAt kp137) (by kernel_rfl)
def pl138 : List (Nat × Plan) := [(1, (.fl 0 (.eff 1 [] (.fl 2 (.fl 3 (.fl 4 (.fl 5 (.fl 6 (.fl 7 (.fl 8 (.fl 9 (.fl 10 (.fl 11 (.fl 12 (.fl 13 (.fl 14 (.fl 15 (.fl 16 (.fl 17 (.fl 18 (.fl 19 (.fl 20 (.fl 21 (.fl 22 (.fl 23 (.fl 24 (.fl 25 (.fl 26 (.fl 27 (.fl 28 (.fl 29 (.fl 30 (.fl 31 (.fl 32 (.fl 33 (.fl 34 (.fl 35 (.fl 36 (.fl 37 (.fl 38 (.fl 39 (.fl 40 (.fl 41 (.fl 42 (.fl 43 (.fl 44 (.fl 45 (.fl 46 .done))))))))))))))))))))))))))))))))))))))))))))))))]
def kp138 : List (Nat × List Nat) := [(0, [0, 1]), (1, [0, 1])]
noncomputable def s138 : SCode := toS (planAt pl138) (keepAt kp138) (Tryd.f138.body.getD .skip)
theorem fn138 : FnIs Tryd.prog 138 51 [.tmp 4] s138 := FnIs.mk' (planAt pl138) (keepAt kp138) (by kernel_rfl)
def pl139 : List (Nat × Plan) := []
def kp139 : List (Nat × List Nat) := [(0, [0]), (1, [0]), (2, [0, 5, 6, 7]), (3, [0, 5, 6, 7]), (4, [0, 4, 5, 6, 7]), (5, []), (6, [0, 5, 6, 7]), (7, [])]
noncomputable def s139 : SCode := toS (planAt pl139) (keepAt kp139) (Tryd.f139.body.getD .skip)
theorem fn139 : FnIs Tryd.prog 139 15 [.tmp 2] s139 := FnIs.mk' (planAt pl139) (keepAt kp139) (by kernel_rfl)
def pl140 : List (Nat × Plan) := []
def kp140 : List (Nat × List Nat) := [(0, [0, 1]), (1, [0])]
noncomputable def s140 : SCode := toS (planAt pl140) (keepAt kp140) (Tryd.f140.body.getD .skip)
theorem fn140 : FnIs Tryd.prog 140 13 [] s140 := FnIs.mk' (planAt pl140) (keepAt kp140) (by kernel_rfl)
def pl141 : List (Nat × Plan) := [(16, (.fl 0 (.fl 1 (.fl 2 (.fl 3 (.eff 4 [0] (.eff 5 [] (.fl 6 (.eff 7 [] .done))))))))), (24, (.fl 0 (.fl 1 (.fl 2 (.fl 3 (.eff 4 [0] (.eff 5 [] (.eff 6 [] .done))))))))]
def kp141 : List (Nat × List Nat) := [(0, [0, 1]), (1, [0, 1, 4]), (2, [0, 1, 4]), (3, [4]), (4, [0, 1, 4]), (5, [4]), (6, [0, 1, 4]), (7, [0, 1, 4]), (8, [0, 1, 4]), (9, [0, 1, 4]), (10, [0, 1, 4]), (11, [0, 1, 4]), (12, [0, 1, 4, 5]), (13, [0, 1, 4, 5, 6]), (14, [0, 1, 4, 5, 6]), (15, [0, 1, 4, 5, 6]), (16, [0, 1, 4, 5, 6]), (17, [4, 5]), (18, [0, 1, 4]), (19, [0, 1, 4]), (20, [0, 4, 7]), (21, [4, 7]), (22, [0, 1, 4]), (23, [0, 1, 4, 8]), (24, [0, 1, 4, 8]), (25, [0, 4, 8]), (26, [0, 4, 8]), (27, [4, 8])]
noncomputable def s141 : SCode := toS (planAt pl141) (keepAt kp141) (Tryd.f141.body.getD .skip)
theorem fn141 : FnIs Tryd.prog 141 86 [.cell 4 66] s141 := FnIs.mk' (planAt pl141) (keepAt kp141) (by kernel_rfl)
def pl144 : List (Nat × Plan) := [(15, (.fl 0 (.fl 1 (.fl 2 (.fl 4 (.fl 6 (.fl 7 (.fl 8 (.fl 9 (.fl 10 (.fl 11 (.fl 12 (.fl 13 (.fl 14 (.fl 15 (.both (.eff 3 [10] (.both (.eff 5 [10] (.eff 16 [] (.fl 17 (.fl 18 (.fl 19 (.eff 20 [] (.fl 21 .done))))))) (.eff 16 [] (.fl 17 (.fl 18 (.fl 19 (.eff 5 [10] (.eff 20 [] (.fl 21 .done))))))))) (.eff 16 [] (.fl 17 (.fl 18 (.fl 19 (.eff 3 [10] (.eff 5 [10] (.eff 20 [] (.fl 21 .done))))))))))))))))))))))))]
def kp144 : List (Nat × List Nat) := [(0, [0, 1]), (1, [0, 1, 4]), (2, [0, 1, 4, 6]), (3, [0, 1, 4, 6, 7]), (4, [0, 1, 4, 6, 7]), (5, [0, 1, 4, 6, 7]), (6, [0, 1, 4, 6, 7]), (7, [0, 1, 4, 6, 7, 8]), (8, [0, 1, 4, 7]), (9, [0, 1, 4, 7, 8]), (10, [0, 1, 4, 6, 7]), (11, [0, 1, 4, 7]), (12, [0, 1, 4, 7]), (13, [0, 1, 4, 7]), (14, [0, 1, 4, 7]), (15, [0, 1, 4, 7, 9, 10]), (16, [0, 1, 4, 6]), (17, [4]), (18, [0, 1, 4, 6]), (19, [0, 1, 4, 6, 119, 120, 121]), (20, [0, 1, 4, 6, 119, 120, 121]), (21, [0, 1, 4, 6, 12, 119, 120, 121]), (22, [0, 1, 4]), (23, [0, 1, 4, 6, 119, 120, 121]), (24, [4])]
noncomputable def s144 : SCode := toS (planAt pl144) (keepAt kp144) (Tryd.f144.body.getD .skip)
theorem fn144 : FnIs Tryd.prog 144 136 [.cell 4 199, .tmp 5] s144 := FnIs.mk' (planAt pl144) (keepAt kp144) (by kernel_rfl)
def pl145 : List (Nat × Plan) := []
def kp145 : List (Nat × List Nat) := [(0, [0]), (1, [0])]
noncomputable def s145 : SCode := toS (planAt pl145) (keepAt kp145) (Tryd.f145.body.getD .skip)
theorem fn145 : FnIs Tryd.prog 145 21 [.tmp 2] s145 := FnIs.mk' (planAt pl145) (keepAt kp145) (by kernel_rfl)
def pl146 : List (Nat × Plan) := []
def kp146 : List (Nat × List Nat) := [(0, [0]), (1, [0])]
noncomputable def s146 : SCode := toS (planAt pl146) (keepAt kp146) (Tryd.f146.body.getD .skip)
theorem fn146 : FnIs Tryd.prog 146 9 [.tmp 2] s146 := FnIs.mk' (planAt pl146) (keepAt kp146) (by kernel_rfl)
def pl147 : List (Nat × Plan) := []
def kp147 : List (Nat × List Nat) := [(0, [0]), (1, [0]), (2, [0, 4]), (3, [0, 4]), (4, [0, 4]), (5, []), (6, [0, 4]), (7, [0, 4, 5]), (8, [0, 4, 5, 6]), (9, [0, 4, 5, 6]), (10, [0, 4, 5, 6]), (11, [0, 4, 5, 6, 7]), (12, []), (13, [0, 4, 5, 6, 7]), (14, [0, 5]), (15, [5]), (16, [5]), (17, []), (18, [5])]
noncomputable def s147 : SCode := toS (planAt pl147) (keepAt kp147) (Tryd.f147.body.getD .skip)
theorem fn147 : FnIs Tryd.prog 147 77 [.tmp 2, .tmp 3] s147 := FnIs.mk' (planAt pl147) (keepAt kp147) (by kernel_rfl)
end Go.Aug
