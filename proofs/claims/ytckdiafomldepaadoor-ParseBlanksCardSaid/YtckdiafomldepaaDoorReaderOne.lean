/- The facts of the program's functions, and the contracts of its lexer and parser; conditions stand in each contract. -/
import Derived.Test.YtckdiafomldepaaDoorAugFive
import Derived.Test.YtckdiafomldepaaDoorProg
import Derived.KernelRfl
set_option linter.all false
set_option linter.unusedVariables false
set_option linter.unusedSimpArgs false
set_option linter.unusedSectionVars false

/- The facts of the seat's types and functions that the reckoning asks; by program (gd.sh, gen2.py, mkpq.py). -/
namespace Go.Aug
open Go.Proofs
set_option maxRecDepth 100000
structure EbG where
  eb : Nat → Addr
  on : Nat → Bool
  mm : Nat → Option Obj
class On (e : EbG) (g : Nat) : Prop where
  on : e.on g = true
def panL : List Nat := [20, 21, 22, 23, 26, 27, 31, 32, 37, 38, 39, 40, 41, 42, 43, 44, 45, 46, 47, 48, 51, 52, 53, 54, 56, 58, 66, 68]
def seatV (e : EbG) : Env := ⟨140, 142, e.eb, fun g => if e.on g = true then some (.sent g) else none, e.mm, fun _ => false, fun f => panL.contains f⟩
@[go_sem] theorem seatV_nz {e : EbG} {t : TypeId} : (seatV e).nz t = false := Eq.trans rfl rfl
theorem seatV_on {e : EbG} {g : Nat} (h : On e g) : (seatV e).G g = some (.sent g) := if_pos h.on
@[go_sem] theorem q_ifcT_82 : ifcT Tryd.prog 82 = true := by kernel_rfl
@[go_sem] theorem q_pan_9 {eb : EbG} : (seatV eb).pan 9 = false := by kernel_rfl
@[go_sem] theorem q_pan_10 {eb : EbG} : (seatV eb).pan 10 = false := by kernel_rfl
@[go_sem] theorem q_pan_11 {eb : EbG} : (seatV eb).pan 11 = false := by kernel_rfl
@[go_sem] theorem q_pan_12 {eb : EbG} : (seatV eb).pan 12 = false := by kernel_rfl
@[go_sem] theorem q_pan_13 {eb : EbG} : (seatV eb).pan 13 = false := by kernel_rfl
@[go_sem] theorem q_pan_15 {eb : EbG} : (seatV eb).pan 15 = false := by kernel_rfl
@[go_sem] theorem q_pan_18 {eb : EbG} : (seatV eb).pan 18 = false := by kernel_rfl
@[go_sem] theorem q_pan_19 {eb : EbG} : (seatV eb).pan 19 = false := by kernel_rfl
@[go_sem] theorem q_pan_21 {eb : EbG} : (seatV eb).pan 21 = true := by kernel_rfl
@[go_sem] theorem q_pan_22 {eb : EbG} : (seatV eb).pan 22 = true := by kernel_rfl
@[go_sem] theorem q_pan_23 {eb : EbG} : (seatV eb).pan 23 = true := by kernel_rfl
@[go_sem] theorem q_pan_24 {eb : EbG} : (seatV eb).pan 24 = false := by kernel_rfl
@[go_sem] theorem q_pan_27 {eb : EbG} : (seatV eb).pan 27 = true := by kernel_rfl
@[go_sem] theorem q_pan_28 {eb : EbG} : (seatV eb).pan 28 = false := by kernel_rfl
@[go_sem] theorem q_pan_29 {eb : EbG} : (seatV eb).pan 29 = false := by kernel_rfl
@[go_sem] theorem q_pan_32 {eb : EbG} : (seatV eb).pan 32 = true := by kernel_rfl
@[go_sem] theorem q_pan_33 {eb : EbG} : (seatV eb).pan 33 = false := by kernel_rfl
@[go_sem] theorem q_pan_34 {eb : EbG} : (seatV eb).pan 34 = false := by kernel_rfl
@[go_sem] theorem q_pan_36 {eb : EbG} : (seatV eb).pan 36 = false := by kernel_rfl
@[go_sem] theorem q_pan_37 {eb : EbG} : (seatV eb).pan 37 = true := by kernel_rfl
@[go_sem] theorem q_pan_38 {eb : EbG} : (seatV eb).pan 38 = true := by kernel_rfl
@[go_sem] theorem q_pan_39 {eb : EbG} : (seatV eb).pan 39 = true := by kernel_rfl
@[go_sem] theorem q_pan_40 {eb : EbG} : (seatV eb).pan 40 = true := by kernel_rfl
@[go_sem] theorem q_pan_41 {eb : EbG} : (seatV eb).pan 41 = true := by kernel_rfl
@[go_sem] theorem q_pan_43 {eb : EbG} : (seatV eb).pan 43 = true := by kernel_rfl
@[go_sem] theorem q_pan_44 {eb : EbG} : (seatV eb).pan 44 = true := by kernel_rfl
@[go_sem] theorem q_pan_46 {eb : EbG} : (seatV eb).pan 46 = true := by kernel_rfl
@[go_sem] theorem q_pan_47 {eb : EbG} : (seatV eb).pan 47 = true := by kernel_rfl
@[go_sem] theorem q_pan_49 {eb : EbG} : (seatV eb).pan 49 = false := by kernel_rfl
@[go_sem] theorem q_pan_51 {eb : EbG} : (seatV eb).pan 51 = true := by kernel_rfl
@[go_sem] theorem q_pan_54 {eb : EbG} : (seatV eb).pan 54 = true := by kernel_rfl
@[go_sem] theorem q_pan_56 {eb : EbG} : (seatV eb).pan 56 = true := by kernel_rfl
@[go_sem] theorem q_pan_57 {eb : EbG} : (seatV eb).pan 57 = false := by kernel_rfl
@[go_sem] theorem q_pan_59 {eb : EbG} : (seatV eb).pan 59 = false := by kernel_rfl
@[go_sem] theorem q_pan_60 {eb : EbG} : (seatV eb).pan 60 = false := by kernel_rfl
@[go_sem] theorem q_pan_61 {eb : EbG} : (seatV eb).pan 61 = false := by kernel_rfl
@[go_sem] theorem q_pan_62 {eb : EbG} : (seatV eb).pan 62 = false := by kernel_rfl
@[go_sem] theorem q_pan_64 {eb : EbG} : (seatV eb).pan 64 = false := by kernel_rfl
@[go_sem] theorem q_pan_65 {eb : EbG} : (seatV eb).pan 65 = false := by kernel_rfl
@[go_sem] theorem q_pan_67 {eb : EbG} : (seatV eb).pan 67 = false := by kernel_rfl
@[go_sem] theorem q_pan_69 {eb : EbG} : (seatV eb).pan 69 = false := by kernel_rfl
@[go_sem] theorem q_pan_70 {eb : EbG} : (seatV eb).pan 70 = false := by kernel_rfl
@[go_sem] theorem q_pan_71 {eb : EbG} : (seatV eb).pan 71 = false := by kernel_rfl
@[go_sem] theorem q_pan_72 {eb : EbG} : (seatV eb).pan 72 = false := by kernel_rfl
@[go_sem] theorem q_pan_73 {eb : EbG} : (seatV eb).pan 73 = false := by kernel_rfl
@[go_sem] theorem q_pan_74 {eb : EbG} : (seatV eb).pan 74 = false := by kernel_rfl
@[go_sem] theorem q_pan_75 {eb : EbG} : (seatV eb).pan 75 = false := by kernel_rfl
@[go_sem] theorem q_pan_76 {eb : EbG} : (seatV eb).pan 76 = false := by kernel_rfl
@[go_sem] theorem q_pan_77 {eb : EbG} : (seatV eb).pan 77 = false := by kernel_rfl
@[go_sem] theorem q_pan_78 {eb : EbG} : (seatV eb).pan 78 = false := by kernel_rfl
@[go_sem] theorem q_pan_79 {eb : EbG} : (seatV eb).pan 79 = false := by kernel_rfl
@[go_sem] theorem q_pan_81 {eb : EbG} : (seatV eb).pan 81 = false := by kernel_rfl
@[go_sem] theorem q_pan_82 {eb : EbG} : (seatV eb).pan 82 = false := by kernel_rfl
theorem mixed : Tryd.prog.follows .mixedOrders = true := by kernel_rfl
@[go_sem] theorem q_appOf_23 : appOf Tryd.prog 23 = (some (34, (3, 32))) := by kernel_rfl
@[go_sem] theorem q_appOf_26 : appOf Tryd.prog 26 = (some (54, (20, 336))) := by kernel_rfl
@[go_sem] theorem q_appOf_32 : appOf Tryd.prog 32 = (some (9, (1, 16))) := by kernel_rfl
@[go_sem] theorem q_appOf_38 : appOf Tryd.prog 38 = (some (40, (4, 56))) := by kernel_rfl
@[go_sem] theorem q_appOf_41 : appOf Tryd.prog 41 = (some (43, (12, 184))) := by kernel_rfl
@[go_sem] theorem q_appOf_50 : appOf Tryd.prog 50 = (some (87, (2, 40))) := by kernel_rfl
@[go_sem] theorem q_appOf_51 : appOf Tryd.prog 51 = (some (91, (3, 48))) := by kernel_rfl
@[go_sem] theorem q_appOf_52 : appOf Tryd.prog 52 = (some (4, (1, 1))) := by kernel_rfl
@[go_sem] theorem q_appOf_56 : appOf Tryd.prog 56 = (some (3, (1, 8))) := by kernel_rfl
@[go_sem] theorem q_arrOf_109 : arrOf Tryd.prog 109 = (some (4, (false, 1))) := by kernel_rfl
@[go_sem] theorem q_bldOf_109 : bldOf Tryd.prog 109 = (some ([(.d (.str (ByteArray.mk (Array.mk [])))), (.d (.str (ByteArray.mk (Array.mk [])))), (.d (.str (ByteArray.mk (Array.mk [])))), (.d (.str (ByteArray.mk (Array.mk []))))], [(0, 1), (1, 1), (2, 1), (3, 1)])) := by kernel_rfl
@[go_sem] theorem q_bldOf_34 : bldOf Tryd.prog 34 = (some ([(.d (.int .i64 (0 : Int))), (.d (.str (ByteArray.mk (Array.mk [])))), (.d (.int .i64 (0 : Int)))], [(0, 1), (1, 1), (2, 1)])) := by kernel_rfl
@[go_sem] theorem q_bldOf_40 : bldOf Tryd.prog 40 = (some ([(.d (.int .i64 (0 : Int))), (.d (.str (ByteArray.mk (Array.mk [])))), (.d (.int .i64 (0 : Int))), .nils], [(0, 1), (1, 1), (2, 1), (3, 1)])) := by kernel_rfl
@[go_sem] theorem q_bldOf_43 : bldOf Tryd.prog 43 = (some ([(.d (.int .i64 (0 : Int))), (.d (.int .i64 (0 : Int))), (.d (.str (ByteArray.mk (Array.mk [])))), (.d (.int .i64 (0 : Int))), .nils, (.d (.int .i64 (0 : Int))), (.d (.str (ByteArray.mk (Array.mk [])))), (.d (.int .i64 (0 : Int))), .nils, (.d (.str (ByteArray.mk (Array.mk [])))), .nils, .nils], [(0, 1), (1, 4), (5, 4), (9, 1), (10, 1), (11, 1)])) := by kernel_rfl
@[go_sem] theorem q_bldOf_54 : bldOf Tryd.prog 54 = (some ([(.d (.int .i64 (0 : Int))), (.d (.str (ByteArray.mk (Array.mk [])))), .nils, .nils, .nils, .nils, (.d (.int .i64 (0 : Int))), .nils, (.d (.int .i64 (0 : Int))), (.d (.int .i64 (0 : Int))), (.d (.str (ByteArray.mk (Array.mk [])))), (.d (.int .i64 (0 : Int))), .nils, (.d (.int .i64 (0 : Int))), (.d (.str (ByteArray.mk (Array.mk [])))), (.d (.int .i64 (0 : Int))), .nils, (.d (.str (ByteArray.mk (Array.mk [])))), .nils, .nils], [(0, 1), (1, 1), (2, 1), (3, 1), (4, 1), (5, 1), (6, 1), (7, 1), (8, 12)])) := by kernel_rfl
@[go_sem] theorem q_bldOf_62 : bldOf Tryd.prog 62 = (some ([.nils, (.d (.int .i64 (0 : Int)))], [(0, 1), (1, 1)])) := by kernel_rfl
@[go_sem] theorem q_bldOf_82 : bldOf Tryd.prog 82 = (some ([(.d (.raw .nilIface))], [(0, 1)])) := by kernel_rfl
@[go_sem] theorem q_bldOf_87 : bldOf Tryd.prog 87 = (some ([(.d (.str (ByteArray.mk (Array.mk [])))), .nils], [(0, 1), (1, 1)])) := by kernel_rfl
@[go_sem] theorem q_bldOf_91 : bldOf Tryd.prog 91 = (some ([(.d (.bool false)), (.d (.str (ByteArray.mk (Array.mk [])))), .nils], [(0, 1), (1, 1), (2, 1)])) := by kernel_rfl
@[go_sem] theorem q_bsOf_106 : bsOf Tryd.prog 106 = (some (5, (1, true))) := by kernel_rfl
@[go_sem] theorem q_bsOf_23 : bsOf Tryd.prog 23 = (some (34, (3, false))) := by kernel_rfl
@[go_sem] theorem q_bsOf_26 : bsOf Tryd.prog 26 = (some (54, (20, false))) := by kernel_rfl
@[go_sem] theorem q_bsOf_32 : bsOf Tryd.prog 32 = (some (9, (1, false))) := by kernel_rfl
@[go_sem] theorem q_bsOf_38 : bsOf Tryd.prog 38 = (some (40, (4, false))) := by kernel_rfl
@[go_sem] theorem q_bsOf_41 : bsOf Tryd.prog 41 = (some (43, (12, false))) := by kernel_rfl
@[go_sem] theorem q_bsOf_50 : bsOf Tryd.prog 50 = (some (87, (2, false))) := by kernel_rfl
@[go_sem] theorem q_bsOf_51 : bsOf Tryd.prog 51 = (some (91, (3, false))) := by kernel_rfl
@[go_sem] theorem q_bsOf_52 : bsOf Tryd.prog 52 = (some (4, (1, false))) := by kernel_rfl
@[go_sem] theorem q_bsOf_56 : bsOf Tryd.prog 56 = (some (3, (1, false))) := by kernel_rfl
@[go_sem] theorem q_bsOf_67 : bsOf Tryd.prog 67 = (some (28, (1, false))) := by kernel_rfl
@[go_sem] theorem q_callable_10 : callable Tryd.prog 10 = true := by kernel_rfl
@[go_sem] theorem q_callable_11 : callable Tryd.prog 11 = true := by kernel_rfl
@[go_sem] theorem q_callable_12 : callable Tryd.prog 12 = true := by kernel_rfl
@[go_sem] theorem q_callable_13 : callable Tryd.prog 13 = true := by kernel_rfl
@[go_sem] theorem q_callable_15 : callable Tryd.prog 15 = true := by kernel_rfl
@[go_sem] theorem q_callable_18 : callable Tryd.prog 18 = true := by kernel_rfl
@[go_sem] theorem q_callable_19 : callable Tryd.prog 19 = true := by kernel_rfl
@[go_sem] theorem q_callable_21 : callable Tryd.prog 21 = true := by kernel_rfl
@[go_sem] theorem q_callable_22 : callable Tryd.prog 22 = true := by kernel_rfl
@[go_sem] theorem q_callable_23 : callable Tryd.prog 23 = true := by kernel_rfl
@[go_sem] theorem q_callable_24 : callable Tryd.prog 24 = true := by kernel_rfl
@[go_sem] theorem q_callable_27 : callable Tryd.prog 27 = true := by kernel_rfl
@[go_sem] theorem q_callable_28 : callable Tryd.prog 28 = true := by kernel_rfl
@[go_sem] theorem q_callable_29 : callable Tryd.prog 29 = true := by kernel_rfl
@[go_sem] theorem q_callable_32 : callable Tryd.prog 32 = true := by kernel_rfl
@[go_sem] theorem q_callable_33 : callable Tryd.prog 33 = true := by kernel_rfl
@[go_sem] theorem q_callable_34 : callable Tryd.prog 34 = true := by kernel_rfl
@[go_sem] theorem q_callable_36 : callable Tryd.prog 36 = true := by kernel_rfl
@[go_sem] theorem q_callable_37 : callable Tryd.prog 37 = true := by kernel_rfl
@[go_sem] theorem q_callable_38 : callable Tryd.prog 38 = true := by kernel_rfl
@[go_sem] theorem q_callable_39 : callable Tryd.prog 39 = true := by kernel_rfl
@[go_sem] theorem q_callable_40 : callable Tryd.prog 40 = true := by kernel_rfl
@[go_sem] theorem q_callable_41 : callable Tryd.prog 41 = true := by kernel_rfl
@[go_sem] theorem q_callable_43 : callable Tryd.prog 43 = true := by kernel_rfl
@[go_sem] theorem q_callable_44 : callable Tryd.prog 44 = true := by kernel_rfl
@[go_sem] theorem q_callable_46 : callable Tryd.prog 46 = true := by kernel_rfl
@[go_sem] theorem q_callable_47 : callable Tryd.prog 47 = true := by kernel_rfl
@[go_sem] theorem q_callable_49 : callable Tryd.prog 49 = true := by kernel_rfl
@[go_sem] theorem q_callable_51 : callable Tryd.prog 51 = true := by kernel_rfl
@[go_sem] theorem q_callable_54 : callable Tryd.prog 54 = true := by kernel_rfl
@[go_sem] theorem q_callable_56 : callable Tryd.prog 56 = true := by kernel_rfl
@[go_sem] theorem q_callable_57 : callable Tryd.prog 57 = true := by kernel_rfl
@[go_sem] theorem q_callable_59 : callable Tryd.prog 59 = true := by kernel_rfl
@[go_sem] theorem q_callable_60 : callable Tryd.prog 60 = true := by kernel_rfl
@[go_sem] theorem q_callable_61 : callable Tryd.prog 61 = true := by kernel_rfl
@[go_sem] theorem q_callable_62 : callable Tryd.prog 62 = true := by kernel_rfl
@[go_sem] theorem q_callable_64 : callable Tryd.prog 64 = true := by kernel_rfl
@[go_sem] theorem q_callable_65 : callable Tryd.prog 65 = true := by kernel_rfl
@[go_sem] theorem q_callable_67 : callable Tryd.prog 67 = true := by kernel_rfl
@[go_sem] theorem q_callable_69 : callable Tryd.prog 69 = true := by kernel_rfl
@[go_sem] theorem q_callable_70 : callable Tryd.prog 70 = true := by kernel_rfl
@[go_sem] theorem q_callable_71 : callable Tryd.prog 71 = true := by kernel_rfl
@[go_sem] theorem q_callable_72 : callable Tryd.prog 72 = true := by kernel_rfl
@[go_sem] theorem q_callable_73 : callable Tryd.prog 73 = true := by kernel_rfl
@[go_sem] theorem q_callable_74 : callable Tryd.prog 74 = true := by kernel_rfl
@[go_sem] theorem q_callable_75 : callable Tryd.prog 75 = true := by kernel_rfl
@[go_sem] theorem q_callable_76 : callable Tryd.prog 76 = true := by kernel_rfl
@[go_sem] theorem q_callable_77 : callable Tryd.prog 77 = true := by kernel_rfl
@[go_sem] theorem q_callable_78 : callable Tryd.prog 78 = true := by kernel_rfl
@[go_sem] theorem q_callable_79 : callable Tryd.prog 79 = true := by kernel_rfl
@[go_sem] theorem q_callable_81 : callable Tryd.prog 81 = true := by kernel_rfl
@[go_sem] theorem q_callable_82 : callable Tryd.prog 82 = true := by kernel_rfl
@[go_sem] theorem q_callable_9 : callable Tryd.prog 9 = true := by kernel_rfl
@[go_sem] theorem q_convOf_5_3 : convOf Tryd.prog 5 3 = (some (Conv.int .i64)) := by kernel_rfl
@[go_sem] theorem q_errTy_V_28 {eb : EbG} : errTy Tryd.prog (seatV eb) 28 = true := by kernel_rfl
@[go_sem] theorem q_fieldOff_34_0 : fieldOff Tryd.prog 34 0 = (some 0) := by kernel_rfl
@[go_sem] theorem q_fieldOff_34_1 : fieldOff Tryd.prog 34 1 = (some 1) := by kernel_rfl
@[go_sem] theorem q_fieldOff_34_2 : fieldOff Tryd.prog 34 2 = (some 2) := by kernel_rfl
@[go_sem] theorem q_fieldOff_40_0 : fieldOff Tryd.prog 40 0 = (some 0) := by kernel_rfl
@[go_sem] theorem q_fieldOff_40_1 : fieldOff Tryd.prog 40 1 = (some 1) := by kernel_rfl
@[go_sem] theorem q_fieldOff_40_2 : fieldOff Tryd.prog 40 2 = (some 2) := by kernel_rfl
@[go_sem] theorem q_fieldOff_40_3 : fieldOff Tryd.prog 40 3 = (some 3) := by kernel_rfl
@[go_sem] theorem q_fieldOff_43_0 : fieldOff Tryd.prog 43 0 = (some 0) := by kernel_rfl
@[go_sem] theorem q_fieldOff_43_1 : fieldOff Tryd.prog 43 1 = (some 1) := by kernel_rfl
@[go_sem] theorem q_fieldOff_43_2 : fieldOff Tryd.prog 43 2 = (some 5) := by kernel_rfl
@[go_sem] theorem q_fieldOff_43_3 : fieldOff Tryd.prog 43 3 = (some 9) := by kernel_rfl
@[go_sem] theorem q_fieldOff_43_4 : fieldOff Tryd.prog 43 4 = (some 10) := by kernel_rfl
@[go_sem] theorem q_fieldOff_43_5 : fieldOff Tryd.prog 43 5 = (some 11) := by kernel_rfl
@[go_sem] theorem q_fieldOff_54_0 : fieldOff Tryd.prog 54 0 = (some 0) := by kernel_rfl
@[go_sem] theorem q_fieldOff_54_1 : fieldOff Tryd.prog 54 1 = (some 1) := by kernel_rfl
@[go_sem] theorem q_fieldOff_54_2 : fieldOff Tryd.prog 54 2 = (some 2) := by kernel_rfl
@[go_sem] theorem q_fieldOff_54_3 : fieldOff Tryd.prog 54 3 = (some 3) := by kernel_rfl
@[go_sem] theorem q_fieldOff_54_4 : fieldOff Tryd.prog 54 4 = (some 4) := by kernel_rfl
@[go_sem] theorem q_fieldOff_54_5 : fieldOff Tryd.prog 54 5 = (some 5) := by kernel_rfl
@[go_sem] theorem q_fieldOff_54_6 : fieldOff Tryd.prog 54 6 = (some 6) := by kernel_rfl
@[go_sem] theorem q_fieldOff_54_7 : fieldOff Tryd.prog 54 7 = (some 7) := by kernel_rfl
@[go_sem] theorem q_fieldOff_54_8 : fieldOff Tryd.prog 54 8 = (some 8) := by kernel_rfl
@[go_sem] theorem q_fieldOff_62_0 : fieldOff Tryd.prog 62 0 = (some 0) := by kernel_rfl
@[go_sem] theorem q_fieldOff_62_1 : fieldOff Tryd.prog 62 1 = (some 1) := by kernel_rfl
@[go_sem] theorem q_fieldOff_82_0 : fieldOff Tryd.prog 82 0 = (some 0) := by kernel_rfl
@[go_sem] theorem q_fieldOff_87_0 : fieldOff Tryd.prog 87 0 = (some 0) := by kernel_rfl
@[go_sem] theorem q_fieldOff_87_1 : fieldOff Tryd.prog 87 1 = (some 1) := by kernel_rfl
@[go_sem] theorem q_fieldOff_91_0 : fieldOff Tryd.prog 91 0 = (some 0) := by kernel_rfl
@[go_sem] theorem q_fieldOff_91_1 : fieldOff Tryd.prog 91 1 = (some 1) := by kernel_rfl
@[go_sem] theorem q_fieldOff_91_2 : fieldOff Tryd.prog 91 2 = (some 2) := by kernel_rfl
@[go_sem] theorem q_idxOf_106 : idxOf Tryd.prog 106 = (some 1) := by kernel_rfl
@[go_sem] theorem q_idxOf_23 : idxOf Tryd.prog 23 = (some 3) := by kernel_rfl
@[go_sem] theorem q_idxOf_26 : idxOf Tryd.prog 26 = (some 20) := by kernel_rfl
@[go_sem] theorem q_idxOf_32 : idxOf Tryd.prog 32 = (some 1) := by kernel_rfl
@[go_sem] theorem q_idxOf_38 : idxOf Tryd.prog 38 = (some 4) := by kernel_rfl
@[go_sem] theorem q_idxOf_41 : idxOf Tryd.prog 41 = (some 12) := by kernel_rfl
@[go_sem] theorem q_idxOf_50 : idxOf Tryd.prog 50 = (some 2) := by kernel_rfl
@[go_sem] theorem q_idxOf_51 : idxOf Tryd.prog 51 = (some 3) := by kernel_rfl
@[go_sem] theorem q_idxOf_52 : idxOf Tryd.prog 52 = (some 1) := by kernel_rfl
@[go_sem] theorem q_idxOf_67 : idxOf Tryd.prog 67 = (some 1) := by kernel_rfl
@[go_sem] theorem q_isBoolT_4 : isBoolT Tryd.prog 4 = true := by kernel_rfl
@[go_sem] theorem q_isIface_28 : isIface Tryd.prog 28 = true := by kernel_rfl
@[go_sem] theorem q_isSliceT_106 : isSliceT Tryd.prog 106 = true := by kernel_rfl
@[go_sem] theorem q_isSliceT_23 : isSliceT Tryd.prog 23 = true := by kernel_rfl
@[go_sem] theorem q_isSliceT_26 : isSliceT Tryd.prog 26 = true := by kernel_rfl
@[go_sem] theorem q_isSliceT_32 : isSliceT Tryd.prog 32 = true := by kernel_rfl
@[go_sem] theorem q_isSliceT_38 : isSliceT Tryd.prog 38 = true := by kernel_rfl
@[go_sem] theorem q_isSliceT_41 : isSliceT Tryd.prog 41 = true := by kernel_rfl
@[go_sem] theorem q_isSliceT_50 : isSliceT Tryd.prog 50 = true := by kernel_rfl
@[go_sem] theorem q_isSliceT_51 : isSliceT Tryd.prog 51 = true := by kernel_rfl
@[go_sem] theorem q_isSliceT_52 : isSliceT Tryd.prog 52 = true := by kernel_rfl
@[go_sem] theorem q_isSliceT_67 : isSliceT Tryd.prog 67 = true := by kernel_rfl
@[go_sem] theorem q_isStrT_9 : isStrT Tryd.prog 9 = true := by kernel_rfl
@[go_sem] theorem q_partAt_34_0 : partAt Tryd.prog 34 0 = (some ((false, 1), 0)) := by kernel_rfl
@[go_sem] theorem q_partAt_34_1 : partAt Tryd.prog 34 1 = (some ((false, 1), 1)) := by kernel_rfl
@[go_sem] theorem q_sameSl_106_106 : sameSl Tryd.prog 106 106 = true := by kernel_rfl
@[go_sem] theorem q_sameSl_5_3 : sameSl Tryd.prog 5 3 = false := by kernel_rfl
@[go_sem] theorem q_sliceOf_9 : sliceOf Tryd.prog 9 = (some none) := by kernel_rfl
@[go_sem] theorem q_tshape_23 : tshape Tryd.prog 23 = (some (false, 1)) := by kernel_rfl
@[go_sem] theorem q_tshape_26 : tshape Tryd.prog 26 = (some (false, 1)) := by kernel_rfl
@[go_sem] theorem q_tshape_28 : tshape Tryd.prog 28 = (some (false, 1)) := by kernel_rfl
@[go_sem] theorem q_tshape_3 : tshape Tryd.prog 3 = (some (false, 1)) := by kernel_rfl
@[go_sem] theorem q_tshape_32 : tshape Tryd.prog 32 = (some (false, 1)) := by kernel_rfl
@[go_sem] theorem q_tshape_34 : tshape Tryd.prog 34 = (some (true, 3)) := by kernel_rfl
@[go_sem] theorem q_tshape_38 : tshape Tryd.prog 38 = (some (false, 1)) := by kernel_rfl
@[go_sem] theorem q_tshape_4 : tshape Tryd.prog 4 = (some (false, 1)) := by kernel_rfl
@[go_sem] theorem q_tshape_40 : tshape Tryd.prog 40 = (some (true, 4)) := by kernel_rfl
@[go_sem] theorem q_tshape_41 : tshape Tryd.prog 41 = (some (false, 1)) := by kernel_rfl
@[go_sem] theorem q_tshape_43 : tshape Tryd.prog 43 = (some (true, 12)) := by kernel_rfl
@[go_sem] theorem q_tshape_5 : tshape Tryd.prog 5 = (some (false, 1)) := by kernel_rfl
@[go_sem] theorem q_tshape_50 : tshape Tryd.prog 50 = (some (false, 1)) := by kernel_rfl
@[go_sem] theorem q_tshape_51 : tshape Tryd.prog 51 = (some (false, 1)) := by kernel_rfl
@[go_sem] theorem q_tshape_52 : tshape Tryd.prog 52 = (some (false, 1)) := by kernel_rfl
@[go_sem] theorem q_tshape_54 : tshape Tryd.prog 54 = (some (true, 20)) := by kernel_rfl
@[go_sem] theorem q_tshape_60 : tshape Tryd.prog 60 = (some (false, 1)) := by kernel_rfl
@[go_sem] theorem q_tshape_82 : tshape Tryd.prog 82 = (some (true, 1)) := by kernel_rfl
@[go_sem] theorem q_tshape_87 : tshape Tryd.prog 87 = (some (true, 2)) := by kernel_rfl
@[go_sem] theorem q_tshape_9 : tshape Tryd.prog 9 = (some (false, 1)) := by kernel_rfl
@[go_sem] theorem q_tshape_91 : tshape Tryd.prog 91 = (some (true, 3)) := by kernel_rfl
@[go_sem] theorem q_zeroOf_23 : zeroOf Tryd.prog 23 = (some [.nils]) := by kernel_rfl
@[go_sem] theorem q_zeroOf_26 : zeroOf Tryd.prog 26 = (some [.nils]) := by kernel_rfl
@[go_sem] theorem q_zeroOf_28 : zeroOf Tryd.prog 28 = (some [(.d (.raw .nilIface))]) := by kernel_rfl
@[go_sem] theorem q_zeroOf_34 : zeroOf Tryd.prog 34 = (some [(.d (.int .i64 (0 : Int))), (.d (.str (ByteArray.mk (Array.mk [])))), (.d (.int .i64 (0 : Int)))]) := by kernel_rfl
@[go_sem] theorem q_zeroOf_40 : zeroOf Tryd.prog 40 = (some [(.d (.int .i64 (0 : Int))), (.d (.str (ByteArray.mk (Array.mk [])))), (.d (.int .i64 (0 : Int))), .nils]) := by kernel_rfl
@[go_sem] theorem q_zeroOf_43 : zeroOf Tryd.prog 43 = (some [(.d (.int .i64 (0 : Int))), (.d (.int .i64 (0 : Int))), (.d (.str (ByteArray.mk (Array.mk [])))), (.d (.int .i64 (0 : Int))), .nils, (.d (.int .i64 (0 : Int))), (.d (.str (ByteArray.mk (Array.mk [])))), (.d (.int .i64 (0 : Int))), .nils, (.d (.str (ByteArray.mk (Array.mk [])))), .nils, .nils]) := by kernel_rfl
@[go_sem] theorem q_zeroOf_54 : zeroOf Tryd.prog 54 = (some [(.d (.int .i64 (0 : Int))), (.d (.str (ByteArray.mk (Array.mk [])))), .nils, .nils, .nils, .nils, (.d (.int .i64 (0 : Int))), .nils, (.d (.int .i64 (0 : Int))), (.d (.int .i64 (0 : Int))), (.d (.str (ByteArray.mk (Array.mk [])))), (.d (.int .i64 (0 : Int))), .nils, (.d (.int .i64 (0 : Int))), (.d (.str (ByteArray.mk (Array.mk [])))), (.d (.int .i64 (0 : Int))), .nils, (.d (.str (ByteArray.mk (Array.mk [])))), .nils, .nils]) := by kernel_rfl
@[go_sem] theorem q_zeroOf_82 : zeroOf Tryd.prog 82 = (some [(.d (.raw .nilIface))]) := by kernel_rfl
@[go_sem] theorem q_zeroOf_87 : zeroOf Tryd.prog 87 = (some [(.d (.str (ByteArray.mk (Array.mk [])))), .nils]) := by kernel_rfl
@[go_sem] theorem q_zeroOf_91 : zeroOf Tryd.prog 91 = (some [(.d (.bool false)), (.d (.str (ByteArray.mk (Array.mk [])))), .nils]) := by kernel_rfl
def pl3 : List (Nat × Plan) := []
def kp3 : List (Nat × List Nat) := [(0, [0, 1]), (1, [0, 1]), (2, []), (3, [0, 1]), (4, [0, 1, 5, 6]), (5, [0, 6]), (6, [6, 8]), (7, [0, 1, 5]), (8, [0, 5, 9]), (9, [0, 5, 9, 10]), (10, [0, 9, 10, 43, 44, 45]), (11, [0, 9, 10, 43, 44, 45]), (12, [0, 9, 10, 12, 43, 44, 45]), (13, [0, 9, 10, 43, 44, 45]), (14, [0, 10]), (15, []), (16, [0, 10]), (17, [10, 13, 14]), (18, [13, 14, 15, 16])]
noncomputable def s3 : SCode := toS (planAt pl3) (keepAt kp3) (Tryd.f3.body.getD .skip)
theorem fn3 : FnIs Tryd.prog 3 79 [.tmp 4] s3 := FnIs.mk' (planAt pl3) (keepAt kp3) (by kernel_rfl)
def pl4 : List (Nat × Plan) := []
def kp4 : List (Nat × List Nat) := [(0, [0, 1]), (1, [0, 1]), (2, []), (3, [0, 1]), (4, [0, 1, 5, 6]), (5, [0, 1, 5, 6, 7, 8]), (6, [0, 1, 5, 6, 7, 8, 9, 10]), (7, []), (8, [5, 7, 9, 10])]
noncomputable def s4 : SCode := toS (planAt pl4) (keepAt kp4) (Tryd.f4.body.getD .skip)
def pl5 : List (Nat × Plan) := []
def kp5 : List (Nat × List Nat) := [(0, [0]), (1, [0]), (2, []), (3, [0]), (4, [0, 3, 4]), (5, []), (6, [0, 3]), (7, [3, 4, 5]), (8, [4]), (9, [3, 5])]
noncomputable def s5 : SCode := toS (planAt pl5) (keepAt kp5) (Tryd.f5.body.getD .skip)
def pl6 : List (Nat × Plan) := []
def kp6 : List (Nat × List Nat) := [(0, [0]), (1, [0]), (2, []), (3, [0]), (4, [0]), (5, [0, 3, 4]), (6, [0, 3, 4, 19, 20]), (7, [0, 3, 4, 19, 20]), (8, [0, 3, 4, 19, 20]), (9, [0, 3, 4]), (10, [0, 3, 4, 5, 6]), (11, [0, 3, 5, 6, 8]), (12, [0, 5, 6, 8, 10]), (13, [6, 8, 10]), (14, [0, 5, 6, 8, 10])]
noncomputable def s6 : SCode := toS (planAt pl6) (keepAt kp6) (Tryd.f6.body.getD .skip)
def pl7 : List (Nat × Plan) := []
def kp7 : List (Nat × List Nat) := [(0, [0]), (1, [0]), (2, []), (3, [0]), (4, [0, 3, 4]), (5, []), (6, [0]), (7, [0, 6]), (8, [0, 6, 8]), (9, [6, 8, 9])]
noncomputable def s7 : SCode := toS (planAt pl7) (keepAt kp7) (Tryd.f7.body.getD .skip)
def pl8 : List (Nat × Plan) := []
def kp8 : List (Nat × List Nat) := [(0, [0]), (1, [0]), (2, []), (3, [0]), (4, [0]), (5, [0, 3, 4]), (6, [0, 3, 4, 15, 16]), (7, [0, 3, 4, 15, 16]), (8, [0, 3, 4, 15, 16]), (9, [0, 3, 4]), (10, [0, 4, 6]), (11, [0, 6, 8])]
noncomputable def s8 : SCode := toS (planAt pl8) (keepAt kp8) (Tryd.f8.body.getD .skip)
def pl9 : List (Nat × Plan) := []
def kp9 : List (Nat × List Nat) := [(0, []), (1, []), (2, [1, 2])]
noncomputable def s9 : SCode := toS (planAt pl9) (keepAt kp9) (Tryd.f9.body.getD .skip)
theorem fn9 : FnIs Tryd.prog 9 42 [.tmp 0] s9 := FnIs.mk' (planAt pl9) (keepAt kp9) (by kernel_rfl)
def pl10 : List (Nat × Plan) := []
def kp10 : List (Nat × List Nat) := [(0, [0]), (1, [0]), (2, []), (3, [0]), (4, [5, 6]), (5, []), (6, [5])]
noncomputable def s10 : SCode := toS (planAt pl10) (keepAt kp10) (Tryd.f10.body.getD .skip)
theorem fn10 : FnIs Tryd.prog 10 19 [.tmp 2, .tmp 3] s10 := FnIs.mk' (planAt pl10) (keepAt kp10) (by kernel_rfl)
def pl11 : List (Nat × Plan) := []
def kp11 : List (Nat × List Nat) := [(0, [0]), (1, [0])]
noncomputable def s11 : SCode := toS (planAt pl11) (keepAt kp11) (Tryd.f11.body.getD .skip)
theorem fn11 : FnIs Tryd.prog 11 8 [.tmp 2, .tmp 3] s11 := FnIs.mk' (planAt pl11) (keepAt kp11) (by kernel_rfl)
def pl12 : List (Nat × Plan) := []
def kp12 : List (Nat × List Nat) := [(0, [0]), (1, [0]), (2, []), (3, [0]), (4, [0, 3]), (5, [0, 25, 26, 27]), (6, [0, 25, 26, 27]), (7, [0, 4, 5, 25, 26, 27]), (8, [4]), (9, [0, 25, 26, 27]), (10, [])]
noncomputable def s12 : SCode := toS (planAt pl12) (keepAt kp12) (Tryd.f12.body.getD .skip)
theorem fn12 : FnIs Tryd.prog 12 38 [.tmp 2] s12 := FnIs.mk' (planAt pl12) (keepAt kp12) (by kernel_rfl)
def pl13 : List (Nat × Plan) := [(6, (.fl 0 (.fl 1 (.fl 2 (.fl 3 (.fl 4 (.fl 5 (.fl 6 (.fl 7 (.eff 8 [] (.fl 9 .done)))))))))))]
def kp13 : List (Nat × List Nat) := [(0, [0, 1]), (1, [0, 1]), (2, []), (3, [0, 1]), (4, [0, 1, 12, 13]), (5, [0, 1, 12, 13]), (6, [0, 1, 5, 12, 13]), (7, []), (8, [0, 1, 12, 13]), (9, [])]
noncomputable def s13 : SCode := toS (planAt pl13) (keepAt kp13) (Tryd.f13.body.getD .skip)
theorem fn13 : FnIs Tryd.prog 13 27 [.tmp 4] s13 := FnIs.mk' (planAt pl13) (keepAt kp13) (by kernel_rfl)
def pl15 : List (Nat × Plan) := [(6, (.fl 0 (.fl 1 (.fl 2 (.fl 3 (.fl 4 (.fl 5 (.fl 6 (.fl 7 (.fl 8 (.fl 9 (.eff 10 [] (.fl 11 .done)))))))))))))]
def kp15 : List (Nat × List Nat) := [(0, [0, 1]), (1, [2, 3]), (2, []), (3, [2, 3]), (4, [2, 3, 53, 54]), (5, [2, 3, 53, 54]), (6, [2, 3, 5, 53, 54]), (7, []), (8, [2, 3, 53, 54]), (9, [])]
noncomputable def s15 : SCode := toS (planAt pl15) (keepAt kp15) (Tryd.f15.body.getD .skip)
theorem fn15 : FnIs Tryd.prog 15 70 [.tmp 4] s15 := FnIs.mk' (planAt pl15) (keepAt kp15) (by kernel_rfl)
def pl18 : List (Nat × Plan) := [(9, (.fl 0 (.fl 1 (.fl 4 (.fl 5 (.both (.eff 2 [5] (.both (.eff 3 [5] (.eff 6 [] (.eff 7 [] (.eff 8 [] (.eff 9 [] .done))))) (.eff 6 [] (.eff 3 [5] (.eff 7 [] (.eff 8 [] (.eff 9 [] .done))))))) (.eff 6 [] (.eff 2 [5] (.eff 3 [5] (.eff 7 [] (.eff 8 [] (.eff 9 [] .done))))))))))))]
def kp18 : List (Nat × List Nat) := [(0, [0]), (1, [0]), (2, [0, 5, 6]), (3, [0, 5, 6, 7]), (4, [0, 5, 6, 7, 8]), (5, [0, 5, 6, 7, 8]), (6, [0, 5, 6, 7, 8]), (7, [0, 5, 6, 7, 8, 10, 11]), (8, [5, 6]), (9, [0, 5, 6, 7, 8, 10]), (10, [0, 5, 6, 7, 8, 10]), (11, [0, 5, 6, 7, 8, 9]), (12, [0, 5, 6, 8, 9]), (13, [0, 5, 6, 7, 8]), (14, [0, 5, 6, 7, 8, 9]), (15, [0, 5, 6, 7, 8]), (16, [0, 5, 6, 7, 8, 9]), (17, [0, 5, 6, 8]), (18, [0, 5, 6, 7, 8]), (19, [5, 6])]
noncomputable def s18 : SCode := toS (planAt pl18) (keepAt kp18) (Tryd.f18.body.getD .skip)
theorem fn18 : FnIs Tryd.prog 18 74 [.tmp 2, .tmp 3, .tmp 4] s18 := FnIs.mk' (planAt pl18) (keepAt kp18) (by kernel_rfl)
def pl19 : List (Nat × Plan) := [(3, (.fl 0 (.fl 1 (.eff 2 [1] (.eff 3 [] .done)))))]
def kp19 : List (Nat × List Nat) := [(0, [0, 1]), (1, [0, 1, 4, 5]), (2, [1, 4, 5, 6]), (3, [4, 5]), (4, [1, 4, 5, 6]), (5, [1, 4, 5, 6]), (6, [1, 4, 5, 6, 7]), (7, [4, 5, 6, 7]), (8, [4, 5, 7]), (9, [4, 5])]
noncomputable def s19 : SCode := toS (planAt pl19) (keepAt kp19) (Tryd.f19.body.getD .skip)
theorem fn19 : FnIs Tryd.prog 19 35 [.cell 4 26, .cell 5 28] s19 := FnIs.mk' (planAt pl19) (keepAt kp19) (by kernel_rfl)
def pl20 : List (Nat × Plan) := [(2, (.fl 0 (.fl 1 (.fl 2 (.fl 3 (.fl 4 (.fl 5 (.fl 6 (.fl 7 (.fl 8 (.fl 9 .done)))))))))))]
def kp20 : List (Nat × List Nat) := [(0, [0]), (1, [0]), (2, [0, 3]), (3, [0, 3]), (4, [0, 3]), (5, [0, 3]), (6, [0, 3]), (7, [3])]
noncomputable def s20 : SCode := toS (planAt pl20) (keepAt kp20) (Tryd.f20.body.getD .skip)
theorem fn20 : FnIs Tryd.prog 20 28 [.tmp 2] s20 := FnIs.mk' (planAt pl20) (keepAt kp20) (by kernel_rfl)
def pl21 : List (Nat × Plan) := []
def kp21 : List (Nat × List Nat) := [(0, [1])]
noncomputable def s21 : SCode := toS (planAt pl21) (keepAt kp21) (Tryd.f21.body.getD .skip)
theorem fn21 : FnIs Tryd.prog 21 7 [] s21 := FnIs.mk' (planAt pl21) (keepAt kp21) (by kernel_rfl)
def pl22 : List (Nat × Plan) := [(2, (.fl 0 (.fl 2 (.fl 3 (.both (.eff 1 [2, 3] (.both (.eff 4 [0, 2] (.both (.eff 5 [] (.both (.eff 6 [] (.eff 7 [0, 2, 3] (.eff 8 [] .done))) (.eff 7 [0, 2, 3] (.eff 6 [] (.eff 8 [] .done))))) (.eff 7 [0, 2, 3] (.eff 5 [] (.eff 6 [] (.eff 8 [] .done)))))) (.eff 7 [0, 2, 3] (.eff 4 [0, 2] (.eff 5 [] (.eff 6 [] (.eff 8 [] .done))))))) (.both (.eff 4 [0, 2] (.both (.eff 1 [2, 3] (.both (.eff 5 [] (.both (.eff 6 [] (.eff 7 [0, 2, 3] (.eff 8 [] .done))) (.eff 7 [0, 2, 3] (.eff 6 [] (.eff 8 [] .done))))) (.eff 7 [0, 2, 3] (.eff 5 [] (.eff 6 [] (.eff 8 [] .done)))))) (.eff 7 [0, 2, 3] (.eff 1 [2, 3] (.eff 5 [] (.eff 6 [] (.eff 8 [] .done))))))) (.eff 7 [0, 2, 3] (.both (.eff 1 [2, 3] (.eff 4 [0, 2] (.eff 5 [] (.eff 6 [] (.eff 8 [] .done))))) (.eff 4 [0, 2] (.eff 1 [2, 3] (.eff 5 [] (.eff 6 [] (.eff 8 [] .done))))))))))))), (4, (.fl 0 (.fl 1 (.fl 2 (.eff 3 [1] (.eff 4 [1] (.eff 5 [] (.fl 6 (.eff 7 [] .done))))))))), (6, (.fl 0 (.fl 1 (.fl 2 (.eff 3 [1] (.eff 4 [1] (.eff 5 [] (.fl 6 (.eff 7 [] .done))))))))), (9, (.fl 0 (.fl 2 (.both (.eff 1 [2] (.eff 3 [0, 2] (.eff 4 [] (.eff 5 [] (.eff 6 [] .done))))) (.eff 3 [0, 2] (.eff 1 [2] (.eff 4 [] (.eff 5 [] (.eff 6 [] .done))))))))), (11, (.fl 0 (.fl 2 (.fl 3 (.both (.eff 1 [2, 3] (.both (.eff 4 [0, 2] (.both (.eff 5 [] (.both (.eff 6 [] (.eff 7 [0, 2, 3] (.eff 8 [] .done))) (.eff 7 [0, 2, 3] (.eff 6 [] (.eff 8 [] .done))))) (.eff 7 [0, 2, 3] (.eff 5 [] (.eff 6 [] (.eff 8 [] .done)))))) (.eff 7 [0, 2, 3] (.eff 4 [0, 2] (.eff 5 [] (.eff 6 [] (.eff 8 [] .done))))))) (.both (.eff 4 [0, 2] (.both (.eff 1 [2, 3] (.both (.eff 5 [] (.both (.eff 6 [] (.eff 7 [0, 2, 3] (.eff 8 [] .done))) (.eff 7 [0, 2, 3] (.eff 6 [] (.eff 8 [] .done))))) (.eff 7 [0, 2, 3] (.eff 5 [] (.eff 6 [] (.eff 8 [] .done)))))) (.eff 7 [0, 2, 3] (.eff 1 [2, 3] (.eff 5 [] (.eff 6 [] (.eff 8 [] .done))))))) (.eff 7 [0, 2, 3] (.both (.eff 1 [2, 3] (.eff 4 [0, 2] (.eff 5 [] (.eff 6 [] (.eff 8 [] .done))))) (.eff 4 [0, 2] (.eff 1 [2, 3] (.eff 5 [] (.eff 6 [] (.eff 8 [] .done))))))))))))), (15, (.fl 0 (.fl 2 (.both (.eff 1 [2] (.both (.eff 3 [0, 2] (.both (.eff 4 [] (.both (.eff 5 [0, 2] (.both (.eff 6 [] (.eff 7 [0, 2] (.eff 8 [] .done))) (.eff 7 [0, 2] (.eff 6 [] (.eff 8 [] .done))))) (.eff 7 [0, 2] (.eff 5 [0, 2] (.eff 6 [] (.eff 8 [] .done)))))) (.both (.eff 5 [0, 2] (.both (.eff 4 [] (.both (.eff 6 [] (.eff 7 [0, 2] (.eff 8 [] .done))) (.eff 7 [0, 2] (.eff 6 [] (.eff 8 [] .done))))) (.eff 7 [0, 2] (.eff 4 [] (.eff 6 [] (.eff 8 [] .done)))))) (.eff 7 [0, 2] (.both (.eff 4 [] (.eff 5 [0, 2] (.eff 6 [] (.eff 8 [] .done)))) (.eff 5 [0, 2] (.eff 4 [] (.eff 6 [] (.eff 8 [] .done))))))))) (.both (.eff 5 [0, 2] (.both (.eff 3 [0, 2] (.both (.eff 4 [] (.both (.eff 6 [] (.eff 7 [0, 2] (.eff 8 [] .done))) (.eff 7 [0, 2] (.eff 6 [] (.eff 8 [] .done))))) (.eff 7 [0, 2] (.eff 4 [] (.eff 6 [] (.eff 8 [] .done)))))) (.eff 7 [0, 2] (.eff 3 [0, 2] (.eff 4 [] (.eff 6 [] (.eff 8 [] .done))))))) (.eff 7 [0, 2] (.both (.eff 3 [0, 2] (.both (.eff 4 [] (.eff 5 [0, 2] (.eff 6 [] (.eff 8 [] .done)))) (.eff 5 [0, 2] (.eff 4 [] (.eff 6 [] (.eff 8 [] .done)))))) (.eff 5 [0, 2] (.eff 3 [0, 2] (.eff 4 [] (.eff 6 [] (.eff 8 [] .done)))))))))) (.both (.eff 3 [0, 2] (.both (.eff 1 [2] (.both (.eff 4 [] (.both (.eff 5 [0, 2] (.both (.eff 6 [] (.eff 7 [0, 2] (.eff 8 [] .done))) (.eff 7 [0, 2] (.eff 6 [] (.eff 8 [] .done))))) (.eff 7 [0, 2] (.eff 5 [0, 2] (.eff 6 [] (.eff 8 [] .done)))))) (.both (.eff 5 [0, 2] (.both (.eff 4 [] (.both (.eff 6 [] (.eff 7 [0, 2] (.eff 8 [] .done))) (.eff 7 [0, 2] (.eff 6 [] (.eff 8 [] .done))))) (.eff 7 [0, 2] (.eff 4 [] (.eff 6 [] (.eff 8 [] .done)))))) (.eff 7 [0, 2] (.both (.eff 4 [] (.eff 5 [0, 2] (.eff 6 [] (.eff 8 [] .done)))) (.eff 5 [0, 2] (.eff 4 [] (.eff 6 [] (.eff 8 [] .done))))))))) (.both (.eff 5 [0, 2] (.both (.eff 1 [2] (.both (.eff 4 [] (.both (.eff 6 [] (.eff 7 [0, 2] (.eff 8 [] .done))) (.eff 7 [0, 2] (.eff 6 [] (.eff 8 [] .done))))) (.eff 7 [0, 2] (.eff 4 [] (.eff 6 [] (.eff 8 [] .done)))))) (.eff 7 [0, 2] (.eff 1 [2] (.eff 4 [] (.eff 6 [] (.eff 8 [] .done))))))) (.eff 7 [0, 2] (.both (.eff 1 [2] (.both (.eff 4 [] (.eff 5 [0, 2] (.eff 6 [] (.eff 8 [] .done)))) (.eff 5 [0, 2] (.eff 4 [] (.eff 6 [] (.eff 8 [] .done)))))) (.eff 5 [0, 2] (.eff 1 [2] (.eff 4 [] (.eff 6 [] (.eff 8 [] .done)))))))))) (.both (.eff 5 [0, 2] (.both (.eff 1 [2] (.both (.eff 3 [0, 2] (.both (.eff 4 [] (.both (.eff 6 [] (.eff 7 [0, 2] (.eff 8 [] .done))) (.eff 7 [0, 2] (.eff 6 [] (.eff 8 [] .done))))) (.eff 7 [0, 2] (.eff 4 [] (.eff 6 [] (.eff 8 [] .done)))))) (.eff 7 [0, 2] (.eff 3 [0, 2] (.eff 4 [] (.eff 6 [] (.eff 8 [] .done))))))) (.both (.eff 3 [0, 2] (.both (.eff 1 [2] (.both (.eff 4 [] (.both (.eff 6 [] (.eff 7 [0, 2] (.eff 8 [] .done))) (.eff 7 [0, 2] (.eff 6 [] (.eff 8 [] .done))))) (.eff 7 [0, 2] (.eff 4 [] (.eff 6 [] (.eff 8 [] .done)))))) (.eff 7 [0, 2] (.eff 1 [2] (.eff 4 [] (.eff 6 [] (.eff 8 [] .done))))))) (.eff 7 [0, 2] (.both (.eff 1 [2] (.eff 3 [0, 2] (.eff 4 [] (.eff 6 [] (.eff 8 [] .done))))) (.eff 3 [0, 2] (.eff 1 [2] (.eff 4 [] (.eff 6 [] (.eff 8 [] .done)))))))))) (.eff 7 [0, 2] (.both (.eff 1 [2] (.both (.eff 3 [0, 2] (.both (.eff 4 [] (.eff 5 [0, 2] (.eff 6 [] (.eff 8 [] .done)))) (.eff 5 [0, 2] (.eff 4 [] (.eff 6 [] (.eff 8 [] .done)))))) (.eff 5 [0, 2] (.eff 3 [0, 2] (.eff 4 [] (.eff 6 [] (.eff 8 [] .done))))))) (.both (.eff 3 [0, 2] (.both (.eff 1 [2] (.both (.eff 4 [] (.eff 5 [0, 2] (.eff 6 [] (.eff 8 [] .done)))) (.eff 5 [0, 2] (.eff 4 [] (.eff 6 [] (.eff 8 [] .done)))))) (.eff 5 [0, 2] (.eff 1 [2] (.eff 4 [] (.eff 6 [] (.eff 8 [] .done))))))) (.eff 5 [0, 2] (.both (.eff 1 [2] (.eff 3 [0, 2] (.eff 4 [] (.eff 6 [] (.eff 8 [] .done))))) (.eff 3 [0, 2] (.eff 1 [2] (.eff 4 [] (.eff 6 [] (.eff 8 [] .done))))))))))))))))]
def kp22 : List (Nat × List Nat) := [(0, [0]), (1, [1, 2]), (2, [1, 2]), (3, [1, 2, 3]), (4, [1, 2, 3]), (5, [1, 2, 3]), (6, [1, 2, 3]), (7, [2, 3]), (8, [1, 2]), (9, [1, 2]), (10, [1, 2]), (11, [1, 2]), (12, [1, 2, 4]), (13, [1, 2, 4]), (14, [2, 4]), (15, [1, 2]), (16, [1, 2, 5]), (17, [1, 2, 5]), (18, [2, 5])]
noncomputable def s22 : SCode := toS (planAt pl22) (keepAt kp22) (Tryd.f22.body.getD .skip)
theorem fn22 : FnIs Tryd.prog 22 73 [.cell 2 54] s22 := FnIs.mk' (planAt pl22) (keepAt kp22) (by kernel_rfl)
def pl23 : List (Nat × Plan) := []
def kp23 : List (Nat × List Nat) := [(0, [0, 1]), (1, [0])]
noncomputable def s23 : SCode := toS (planAt pl23) (keepAt kp23) (Tryd.f23.body.getD .skip)
theorem fn23 : FnIs Tryd.prog 23 11 [] s23 := FnIs.mk' (planAt pl23) (keepAt kp23) (by kernel_rfl)
def pl24 : List (Nat × Plan) := [(6, (.fl 0 (.fl 1 (.fl 2 (.fl 3 (.fl 4 (.fl 5 (.fl 6 (.fl 7 (.fl 8 (.fl 9 (.fl 10 .done)))))))))))), (12, (.fl 0 (.fl 1 (.fl 2 (.fl 3 (.fl 4 (.fl 5 (.fl 6 (.fl 7 (.fl 8 (.fl 9 (.fl 10 .done)))))))))))), (18, (.fl 0 (.fl 1 (.fl 2 (.fl 3 (.fl 4 (.fl 5 (.fl 6 (.fl 7 (.fl 8 (.fl 9 (.fl 10 (.fl 11 (.fl 12 (.fl 13 (.fl 14 (.fl 15 (.fl 16 (.fl 17 (.fl 18 (.fl 19 (.fl 20 (.fl 21 (.fl 22 (.fl 23 (.fl 24 (.fl 25 (.eff 26 [] (.fl 27 (.fl 28 .done))))))))))))))))))))))))))))))]
def kp24 : List (Nat × List Nat) := [(0, [0, 1]), (1, [2, 3]), (2, []), (3, [2, 3]), (4, [2, 3, 80, 81]), (5, [2, 3, 80, 81]), (6, [2, 3, 5, 80, 81]), (7, []), (8, [2, 3, 80, 81]), (9, [2, 3]), (10, [2, 3, 98, 99]), (11, [2, 3, 98, 99]), (12, [2, 3, 6, 98, 99]), (13, []), (14, [2, 3, 98, 99]), (15, [2, 3]), (16, [2, 3, 116, 117]), (17, [2, 3, 116, 117]), (18, [2, 3, 7, 116, 117]), (19, []), (20, [2, 3, 116, 117]), (21, [])]
noncomputable def s24 : SCode := toS (planAt pl24) (keepAt kp24) (Tryd.f24.body.getD .skip)
theorem fn24 : FnIs Tryd.prog 24 150 [.tmp 4] s24 := FnIs.mk' (planAt pl24) (keepAt kp24) (by kernel_rfl)
def pl27 : List (Nat × Plan) := []
def kp27 : List (Nat × List Nat) := [(0, [0, 1]), (1, [2, 3, 4])]
noncomputable def s27 : SCode := toS (planAt pl27) (keepAt kp27) (Tryd.f27.body.getD .skip)
theorem fn27 : FnIs Tryd.prog 27 8 [.cell 4 43] s27 := FnIs.mk' (planAt pl27) (keepAt kp27) (by kernel_rfl)
def pl28 : List (Nat × Plan) := []
def kp28 : List (Nat × List Nat) := [(0, [0, 1]), (1, [2, 3])]
noncomputable def s28 : SCode := toS (planAt pl28) (keepAt kp28) (Tryd.f28.body.getD .skip)
theorem fn28 : FnIs Tryd.prog 28 31 [.tmp 4] s28 := FnIs.mk' (planAt pl28) (keepAt kp28) (by kernel_rfl)
def pl29 : List (Nat × Plan) := [(6, (.fl 0 (.fl 1 (.fl 2 (.fl 3 (.fl 4 (.fl 5 (.fl 6 (.fl 7 (.eff 8 [] (.fl 9 .done)))))))))))]
def kp29 : List (Nat × List Nat) := [(0, [0, 1]), (1, [0, 1]), (2, []), (3, [0, 1]), (4, [0, 1, 12, 13]), (5, [0, 1, 12, 13]), (6, [0, 1, 5, 12, 13]), (7, []), (8, [0, 1, 12, 13]), (9, [])]
noncomputable def s29 : SCode := toS (planAt pl29) (keepAt kp29) (Tryd.f29.body.getD .skip)
theorem fn29 : FnIs Tryd.prog 29 27 [.tmp 4] s29 := FnIs.mk' (planAt pl29) (keepAt kp29) (by kernel_rfl)
def pl32 : List (Nat × Plan) := []
def kp32 : List (Nat × List Nat) := [(0, [0, 1]), (1, [2, 3, 4]), (2, [2, 3, 4]), (3, [2, 3, 4, 5]), (4, [2, 3, 4, 5, 13]), (5, [2, 4, 5]), (6, [4, 5]), (7, [2, 3, 4, 5, 13]), (8, [2, 4, 5]), (9, [4, 5]), (10, [2, 3, 4]), (11, [2, 3, 4, 6])]
noncomputable def s32 : SCode := toS (planAt pl32) (keepAt kp32) (Tryd.f32.body.getD .skip)
theorem fn32 : FnIs Tryd.prog 32 45 [.cell 4 40] s32 := FnIs.mk' (planAt pl32) (keepAt kp32) (by kernel_rfl)
def pl33 : List (Nat × Plan) := [(15, (.fl 0 (.fl 1 (.fl 2 (.fl 4 (.fl 6 (.fl 7 (.fl 8 (.fl 9 (.fl 10 (.fl 11 (.fl 12 (.fl 13 (.fl 14 (.fl 15 (.both (.eff 3 [10] (.both (.eff 5 [10] (.eff 16 [] (.fl 17 (.fl 18 (.fl 19 (.eff 20 [] (.fl 21 .done))))))) (.eff 16 [] (.fl 17 (.fl 18 (.fl 19 (.eff 5 [10] (.eff 20 [] (.fl 21 .done))))))))) (.eff 16 [] (.fl 17 (.fl 18 (.fl 19 (.eff 3 [10] (.eff 5 [10] (.eff 20 [] (.fl 21 .done))))))))))))))))))))))))]
def kp33 : List (Nat × List Nat) := [(0, [0, 1]), (1, [0, 1, 4]), (2, [0, 1, 4, 6]), (3, [0, 1, 4, 6, 7]), (4, [0, 1, 4, 6, 7]), (5, [0, 1, 4, 6, 7]), (6, [0, 1, 4, 6, 7]), (7, [0, 1, 4, 6, 7, 8]), (8, [0, 1, 4, 7]), (9, [0, 1, 4, 7, 8]), (10, [0, 1, 4, 6, 7]), (11, [0, 1, 4, 7]), (12, [0, 1, 4, 7]), (13, [0, 1, 4, 7]), (14, [0, 1, 4, 7]), (15, [0, 1, 4, 7, 9, 10]), (16, [0, 1, 4, 6]), (17, [4]), (18, [0, 1, 4, 6]), (19, [0, 1, 4, 6, 119, 120, 121]), (20, [0, 1, 4, 6, 119, 120, 121]), (21, [0, 1, 4, 6, 12, 119, 120, 121]), (22, [0, 1, 4]), (23, [0, 1, 4, 6, 119, 120, 121]), (24, [4])]
noncomputable def s33 : SCode := toS (planAt pl33) (keepAt kp33) (Tryd.f33.body.getD .skip)
theorem fn33 : FnIs Tryd.prog 33 136 [.cell 4 34, .tmp 5] s33 := FnIs.mk' (planAt pl33) (keepAt kp33) (by kernel_rfl)
def pl34 : List (Nat × Plan) := [(2, (.fl 0 (.fl 1 (.fl 2 .done)))), (6, (.fl 0 (.fl 1 (.fl 2 .done))))]
def kp34 : List (Nat × List Nat) := [(0, [0]), (1, [0]), (2, []), (3, [0]), (4, [0, 4]), (5, [4, 5]), (6, []), (7, [4])]
noncomputable def s34 : SCode := toS (planAt pl34) (keepAt kp34) (Tryd.f34.body.getD .skip)
theorem fn34 : FnIs Tryd.prog 34 17 [.tmp 2, .tmp 3] s34 := FnIs.mk' (planAt pl34) (keepAt kp34) (by kernel_rfl)
def pl35 : List (Nat × Plan) := [(3, (.fl 0 (.fl 1 (.fl 2 (.eff 3 [2] (.eff 4 [] .done))))))]
def kp35 : List (Nat × List Nat) := [(0, [0, 1]), (1, [0, 1, 2, 3]), (2, [0, 1, 2]), (3, [0, 1, 2, 4])]
noncomputable def s35 : SCode := toS (planAt pl35) (keepAt kp35) (Tryd.f35.body.getD .skip)
theorem fn35 : FnIs Tryd.prog 35 14 [] s35 := FnIs.mk' (planAt pl35) (keepAt kp35) (by kernel_rfl)
def pl36 : List (Nat × Plan) := []
def kp36 : List (Nat × List Nat) := [(0, [0, 1]), (1, [0, 1]), (2, [0]), (3, []), (4, [])]
noncomputable def s36 : SCode := toS (planAt pl36) (keepAt kp36) (Tryd.f36.body.getD .skip)
theorem fn36 : FnIs Tryd.prog 36 15 [.tmp 4] s36 := FnIs.mk' (planAt pl36) (keepAt kp36) (by kernel_rfl)
def pl37 : List (Nat × Plan) := []
def kp37 : List (Nat × List Nat) := [(0, [0]), (1, [0]), (2, [0, 3]), (3, [0, 3]), (4, [0, 3]), (5, [3])]
noncomputable def s37 : SCode := toS (planAt pl37) (keepAt kp37) (Tryd.f37.body.getD .skip)
theorem fn37 : FnIs Tryd.prog 37 26 [.tmp 2] s37 := FnIs.mk' (planAt pl37) (keepAt kp37) (by kernel_rfl)
def pl38 : List (Nat × Plan) := [(4, (.fl 0 (.fl 1 (.fl 2 (.fl 3 (.fl 4 (.fl 5 (.fl 6 (.fl 7 (.fl 8 (.fl 9 (.fl 10 (.fl 11 (.fl 12 (.fl 13 (.fl 14 .done))))))))))))))))]
def kp38 : List (Nat × List Nat) := [(0, [0, 1]), (1, [0, 1]), (2, []), (3, [0, 1]), (4, [0, 1, 5]), (5, [0, 1, 5]), (6, [0, 1, 5]), (7, [0, 1, 5]), (8, [5]), (9, [0, 1, 5])]
noncomputable def s38 : SCode := toS (planAt pl38) (keepAt kp38) (Tryd.f38.body.getD .skip)
theorem fn38 : FnIs Tryd.prog 38 37 [.tmp 4] s38 := FnIs.mk' (planAt pl38) (keepAt kp38) (by kernel_rfl)
def pl39 : List (Nat × Plan) := []
def kp39 : List (Nat × List Nat) := [(0, [0]), (1, [0]), (2, [0, 3]), (3, [0, 3]), (4, [0, 3]), (5, [3])]
noncomputable def s39 : SCode := toS (planAt pl39) (keepAt kp39) (Tryd.f39.body.getD .skip)
theorem fn39 : FnIs Tryd.prog 39 21 [.tmp 2] s39 := FnIs.mk' (planAt pl39) (keepAt kp39) (by kernel_rfl)
def pl40 : List (Nat × Plan) := []
def kp40 : List (Nat × List Nat) := [(0, [0]), (1, [1, 2]), (2, [1, 2, 3])]
noncomputable def s40 : SCode := toS (planAt pl40) (keepAt kp40) (Tryd.f40.body.getD .skip)
theorem fn40 : FnIs Tryd.prog 40 11 [.cell 2 87] s40 := FnIs.mk' (planAt pl40) (keepAt kp40) (by kernel_rfl)
def pl41 : List (Nat × Plan) := [(4, (.fl 0 (.fl 1 (.fl 2 (.fl 3 (.fl 4 (.fl 5 (.fl 6 (.fl 7 (.fl 8 (.fl 9 (.fl 10 (.fl 11 (.fl 12 (.fl 13 (.fl 14 .done))))))))))))))))]
def kp41 : List (Nat × List Nat) := [(0, [0, 1]), (1, [0, 1]), (2, []), (3, [0, 1]), (4, [0, 1, 5]), (5, [0, 1, 5]), (6, [0, 1, 5]), (7, [0, 1, 5]), (8, [5]), (9, [0, 1, 5])]
noncomputable def s41 : SCode := toS (planAt pl41) (keepAt kp41) (Tryd.f41.body.getD .skip)
theorem fn41 : FnIs Tryd.prog 41 37 [.tmp 4] s41 := FnIs.mk' (planAt pl41) (keepAt kp41) (by kernel_rfl)
def pl42 : List (Nat × Plan) := []
def kp42 : List (Nat × List Nat) := [(0, [0]), (1, [0, 1])]
noncomputable def s42 : SCode := toS (planAt pl42) (keepAt kp42) (Tryd.f42.body.getD .skip)
theorem fn42 : FnIs Tryd.prog 42 4 [.cell 1 91] s42 := FnIs.mk' (planAt pl42) (keepAt kp42) (by kernel_rfl)
def pl43 : List (Nat × Plan) := []
def kp43 : List (Nat × List Nat) := [(0, [0, 1]), (1, [2, 3, 4]), (2, [2, 3, 4]), (3, [2, 4]), (4, [2, 3, 4]), (5, [4]), (6, [2, 3, 4]), (7, [2, 3, 4, 5])]
noncomputable def s43 : SCode := toS (planAt pl43) (keepAt kp43) (Tryd.f43.body.getD .skip)
theorem fn43 : FnIs Tryd.prog 43 27 [.cell 4 91] s43 := FnIs.mk' (planAt pl43) (keepAt kp43) (by kernel_rfl)
def pl44 : List (Nat × Plan) := [(4, (.fl 0 (.fl 1 (.fl 2 (.fl 3 (.fl 4 (.fl 5 (.fl 6 (.fl 7 (.fl 8 (.fl 9 (.fl 10 (.fl 11 (.fl 12 (.fl 13 (.fl 14 .done))))))))))))))))]
def kp44 : List (Nat × List Nat) := [(0, [0, 1]), (1, [0, 1]), (2, []), (3, [0, 1]), (4, [0, 1, 5]), (5, [0, 1, 5]), (6, [0, 1, 5]), (7, [0, 1, 5]), (8, [5]), (9, [0, 1, 5])]
noncomputable def s44 : SCode := toS (planAt pl44) (keepAt kp44) (Tryd.f44.body.getD .skip)
theorem fn44 : FnIs Tryd.prog 44 37 [.tmp 4] s44 := FnIs.mk' (planAt pl44) (keepAt kp44) (by kernel_rfl)
def pl45 : List (Nat × Plan) := []
def kp45 : List (Nat × List Nat) := [(0, [0]), (1, [0]), (2, []), (3, [0]), (4, [])]
noncomputable def s45 : SCode := toS (planAt pl45) (keepAt kp45) (Tryd.f45.body.getD .skip)
theorem fn45 : FnIs Tryd.prog 45 7 [.tmp 2] s45 := FnIs.mk' (planAt pl45) (keepAt kp45) (by kernel_rfl)
def pl46 : List (Nat × Plan) := []
def kp46 : List (Nat × List Nat) := [(0, [0]), (1, [0]), (2, [0, 5, 6]), (3, [0, 5, 6]), (4, [0, 3, 4, 5, 6]), (5, [3]), (6, [0, 5, 6]), (7, [0]), (8, [])]
noncomputable def s46 : SCode := toS (planAt pl46) (keepAt kp46) (Tryd.f46.body.getD .skip)
theorem fn46 : FnIs Tryd.prog 46 19 [.tmp 2] s46 := FnIs.mk' (planAt pl46) (keepAt kp46) (by kernel_rfl)
def pl47 : List (Nat × Plan) := [(4, (.fl 0 (.fl 1 (.fl 2 (.fl 3 (.fl 4 (.fl 5 (.fl 6 (.fl 7 (.fl 8 (.fl 9 (.fl 10 (.fl 11 (.fl 12 (.fl 13 (.fl 14 .done))))))))))))))))]
def kp47 : List (Nat × List Nat) := [(0, [0, 1]), (1, [0, 1]), (2, []), (3, [0, 1]), (4, [0, 1, 5]), (5, [0, 1, 5]), (6, [0, 1, 5]), (7, [0, 1, 5]), (8, [5]), (9, [0, 1, 5])]
noncomputable def s47 : SCode := toS (planAt pl47) (keepAt kp47) (Tryd.f47.body.getD .skip)
theorem fn47 : FnIs Tryd.prog 47 37 [.tmp 4] s47 := FnIs.mk' (planAt pl47) (keepAt kp47) (by kernel_rfl)
def pl48 : List (Nat × Plan) := []
def kp48 : List (Nat × List Nat) := [(0, [0]), (1, [0, 1])]
noncomputable def s48 : SCode := toS (planAt pl48) (keepAt kp48) (Tryd.f48.body.getD .skip)
theorem fn48 : FnIs Tryd.prog 48 4 [.cell 1 40] s48 := FnIs.mk' (planAt pl48) (keepAt kp48) (by kernel_rfl)
def pl49 : List (Nat × Plan) := [(6, (.fl 0 (.fl 1 (.fl 2 (.fl 3 (.fl 4 (.fl 5 (.fl 6 (.fl 7 (.eff 8 [] (.fl 9 .done)))))))))))]
def kp49 : List (Nat × List Nat) := [(0, [0, 1]), (1, [0, 1]), (2, []), (3, [0, 1]), (4, [0, 1, 12, 13]), (5, [0, 1, 12, 13]), (6, [0, 1, 5, 12, 13]), (7, []), (8, [0, 1, 12, 13]), (9, [])]
noncomputable def s49 : SCode := toS (planAt pl49) (keepAt kp49) (Tryd.f49.body.getD .skip)
theorem fn49 : FnIs Tryd.prog 49 27 [.tmp 4] s49 := FnIs.mk' (planAt pl49) (keepAt kp49) (by kernel_rfl)
def pl51 : List (Nat × Plan) := []
def kp51 : List (Nat × List Nat) := [(0, [0, 1, 2, 3]), (1, [0, 1, 2, 3, 8]), (2, [0, 1, 2, 3, 8, 9]), (3, [0, 1, 2, 3, 8, 9]), (4, [1, 8, 9]), (5, [8, 9]), (6, [1, 8, 9])]
noncomputable def s51 : SCode := toS (planAt pl51) (keepAt kp51) (Tryd.f51.body.getD .skip)
theorem fn51 : FnIs Tryd.prog 51 30 [.cell 8 43] s51 := FnIs.mk' (planAt pl51) (keepAt kp51) (by kernel_rfl)
def pl52 : List (Nat × Plan) := []
def kp52 : List (Nat × List Nat) := [(0, [0, 1]), (1, [0, 1, 2])]
noncomputable def s52 : SCode := toS (planAt pl52) (keepAt kp52) (Tryd.f52.body.getD .skip)
theorem fn52 : FnIs Tryd.prog 52 6 [.cell 2 43] s52 := FnIs.mk' (planAt pl52) (keepAt kp52) (by kernel_rfl)
def pl53 : List (Nat × Plan) := []
def kp53 : List (Nat × List Nat) := [(0, [0, 1]), (1, [0, 1, 2])]
noncomputable def s53 : SCode := toS (planAt pl53) (keepAt kp53) (Tryd.f53.body.getD .skip)
theorem fn53 : FnIs Tryd.prog 53 6 [.cell 2 43] s53 := FnIs.mk' (planAt pl53) (keepAt kp53) (by kernel_rfl)
def pl54 : List (Nat × Plan) := [(15, (.fl 0 (.fl 1 (.fl 2 (.fl 3 (.fl 4 (.eff 5 [1] (.eff 6 [] (.eff 7 [] (.eff 8 [] .done)))))))))), (22, (.fl 0 (.fl 1 (.fl 2 (.fl 3 (.eff 4 [0] (.eff 5 [] (.eff 6 [] .done))))))))]
def kp54 : List (Nat × List Nat) := [(0, [0, 1]), (1, [0, 1, 4]), (2, [0, 1, 4]), (3, [4]), (4, [0, 1, 4]), (5, [4]), (6, [0, 1, 4]), (7, [0, 1, 4]), (8, [0, 1, 4]), (9, [0, 1, 4]), (10, [0, 1, 4]), (11, [0, 1, 4]), (12, [0, 1, 4, 5]), (13, [0, 1, 4, 5]), (14, [0, 1, 4, 5, 6]), (15, [0, 1, 4, 5, 6]), (16, [0, 1, 4]), (17, [0, 1, 4]), (18, [0, 4, 7]), (19, [4, 7]), (20, [0, 1, 4]), (21, [0, 1, 4, 8]), (22, [0, 1, 4, 8]), (23, [0, 4, 8]), (24, [0, 4, 8]), (25, [4, 8])]
noncomputable def s54 : SCode := toS (planAt pl54) (keepAt kp54) (Tryd.f54.body.getD .skip)
theorem fn54 : FnIs Tryd.prog 54 91 [.cell 4 43] s54 := FnIs.mk' (planAt pl54) (keepAt kp54) (by kernel_rfl)
def pl56 : List (Nat × Plan) := [(0, (.fl 0 (.fl 1 (.fl 2 (.fl 3 (.fl 4 (.fl 5 (.fl 6 (.fl 7 (.fl 8 (.fl 9 (.fl 10 (.fl 11 (.fl 12 (.fl 13 .done)))))))))))))))]
def kp56 : List (Nat × List Nat) := [(0, [0, 1]), (1, [0])]
noncomputable def s56 : SCode := toS (planAt pl56) (keepAt kp56) (Tryd.f56.body.getD .skip)
theorem fn56 : FnIs Tryd.prog 56 21 [] s56 := FnIs.mk' (planAt pl56) (keepAt kp56) (by kernel_rfl)
def pl57 : List (Nat × Plan) := [(1, (.fl 0 (.fl 1 (.fl 2 (.fl 3 (.fl 4 (.fl 5 (.fl 6 (.fl 7 (.fl 8 (.fl 9 .done))))))))))), (2, (.fl 0 (.fl 1 (.fl 2 (.fl 3 (.fl 4 (.fl 5 (.fl 6 (.fl 7 (.fl 8 (.fl 9 (.eff 10 [] .done))))))))))))]
def kp57 : List (Nat × List Nat) := [(0, [0]), (1, [0, 2]), (2, [0, 2]), (3, [2])]
noncomputable def s57 : SCode := toS (planAt pl57) (keepAt kp57) (Tryd.f57.body.getD .skip)
theorem fn57 : FnIs Tryd.prog 57 24 [.cell 2 34] s57 := FnIs.mk' (planAt pl57) (keepAt kp57) (by kernel_rfl)
def pl58 : List (Nat × Plan) := []
def kp58 : List (Nat × List Nat) := [(0, [0, 1]), (1, [0, 1, 2])]
noncomputable def s58 : SCode := toS (planAt pl58) (keepAt kp58) (Tryd.f58.body.getD .skip)
theorem fn58 : FnIs Tryd.prog 58 7 [.cell 2 40] s58 := FnIs.mk' (planAt pl58) (keepAt kp58) (by kernel_rfl)
def pl59 : List (Nat × Plan) := []
def kp59 : List (Nat × List Nat) := [(0, [0]), (1, [0])]
noncomputable def s59 : SCode := toS (planAt pl59) (keepAt kp59) (Tryd.f59.body.getD .skip)
theorem fn59 : FnIs Tryd.prog 59 21 [.tmp 2] s59 := FnIs.mk' (planAt pl59) (keepAt kp59) (by kernel_rfl)
def pl60 : List (Nat × Plan) := []
def kp60 : List (Nat × List Nat) := [(0, [0]), (1, [0])]
noncomputable def s60 : SCode := toS (planAt pl60) (keepAt kp60) (Tryd.f60.body.getD .skip)
theorem fn60 : FnIs Tryd.prog 60 9 [.tmp 2] s60 := FnIs.mk' (planAt pl60) (keepAt kp60) (by kernel_rfl)
def pl61 : List (Nat × Plan) := []
def kp61 : List (Nat × List Nat) := [(0, [0]), (1, [0]), (2, [0, 4]), (3, [0, 4]), (4, [0, 4]), (5, []), (6, [0, 4]), (7, [0, 4, 5]), (8, [0, 4, 5, 6]), (9, [0, 4, 5, 6]), (10, [0, 4, 5, 6]), (11, [0, 4, 5, 6, 7]), (12, []), (13, [0, 4, 5, 6, 7]), (14, [0, 5]), (15, [5]), (16, [5]), (17, []), (18, [5])]
noncomputable def s61 : SCode := toS (planAt pl61) (keepAt kp61) (Tryd.f61.body.getD .skip)
theorem fn61 : FnIs Tryd.prog 61 77 [.tmp 2, .tmp 3] s61 := FnIs.mk' (planAt pl61) (keepAt kp61) (by kernel_rfl)
def pl62 : List (Nat × Plan) := []
def kp62 : List (Nat × List Nat) := [(0, [0, 1]), (1, [0, 1]), (2, [0, 1, 5]), (3, [0, 1, 5]), (4, [0, 1, 5, 6, 7]), (5, []), (6, [0, 1, 5, 6]), (7, [])]
noncomputable def s62 : SCode := toS (planAt pl62) (keepAt kp62) (Tryd.f62.body.getD .skip)
theorem fn62 : FnIs Tryd.prog 62 36 [.tmp 4] s62 := FnIs.mk' (planAt pl62) (keepAt kp62) (by kernel_rfl)
def pl63 : List (Nat × Plan) := []
def kp63 : List (Nat × List Nat) := [(0, [1, 2]), (1, [2, 4]), (2, [])]
noncomputable def s63 : SCode := toS (planAt pl63) (keepAt kp63) (Tryd.f63.body.getD .skip)
theorem fn63 : FnIs Tryd.prog 63 10 [.tmp 5] s63 := FnIs.mk' (planAt pl63) (keepAt kp63) (by kernel_rfl)
def pl64 : List (Nat × Plan) := []
def kp64 : List (Nat × List Nat) := [(0, [0, 1]), (1, [0, 1]), (2, [1, 5])]
noncomputable def s64 : SCode := toS (planAt pl64) (keepAt kp64) (Tryd.f64.body.getD .skip)
theorem fn64 : FnIs Tryd.prog 64 22 [.tmp 4] s64 := FnIs.mk' (planAt pl64) (keepAt kp64) (by kernel_rfl)
def pl65 : List (Nat × Plan) := []
def kp65 : List (Nat × List Nat) := [(0, [0]), (1, [0]), (2, [3]), (3, [3]), (4, [3]), (5, [3]), (6, [3]), (7, [3]), (8, [3]), (9, [3]), (10, [3]), (11, [3]), (12, [3]), (13, [3]), (14, [3]), (15, [3]), (16, [3]), (17, [3]), (18, [3]), (19, [3]), (20, []), (21, [])]
noncomputable def s65 : SCode := toS (planAt pl65) (keepAt kp65) (Tryd.f65.body.getD .skip)
theorem fn65 : FnIs Tryd.prog 65 23 [.tmp 2] s65 := FnIs.mk' (planAt pl65) (keepAt kp65) (by kernel_rfl)
def pl66 : List (Nat × Plan) := []
def kp66 : List (Nat × List Nat) := [(0, [0]), (1, [0, 1])]
noncomputable def s66 : SCode := toS (planAt pl66) (keepAt kp66) (Tryd.f66.body.getD .skip)
theorem fn66 : FnIs Tryd.prog 66 4 [.cell 1 91] s66 := FnIs.mk' (planAt pl66) (keepAt kp66) (by kernel_rfl)
def pl67 : List (Nat × Plan) := []
def kp67 : List (Nat × List Nat) := [(0, [0]), (1, [0, 2]), (2, [0, 2, 3]), (3, [2, 3])]
noncomputable def s67 : SCode := toS (planAt pl67) (keepAt kp67) (Tryd.f67.body.getD .skip)
theorem fn67 : FnIs Tryd.prog 67 14 [.cell 2 34] s67 := FnIs.mk' (planAt pl67) (keepAt kp67) (by kernel_rfl)
def pl68 : List (Nat × Plan) := []
def kp68 : List (Nat × List Nat) := [(0, [0, 1]), (1, [0, 1, 2])]
noncomputable def s68 : SCode := toS (planAt pl68) (keepAt kp68) (Tryd.f68.body.getD .skip)
theorem fn68 : FnIs Tryd.prog 68 7 [.cell 2 91] s68 := FnIs.mk' (planAt pl68) (keepAt kp68) (by kernel_rfl)
def pl69 : List (Nat × Plan) := []
def kp69 : List (Nat × List Nat) := [(0, [0, 1]), (1, [2, 3])]
noncomputable def s69 : SCode := toS (planAt pl69) (keepAt kp69) (Tryd.f69.body.getD .skip)
theorem fn69 : FnIs Tryd.prog 69 24 [.tmp 4] s69 := FnIs.mk' (planAt pl69) (keepAt kp69) (by kernel_rfl)
def pl70 : List (Nat × Plan) := []
def kp70 : List (Nat × List Nat) := [(0, [0, 1]), (1, [0, 1]), (2, [0, 1]), (3, [0, 1, 12]), (4, [0, 1, 12]), (5, [0, 1, 12]), (6, [0, 1, 12]), (7, [0, 1]), (8, [0, 1, 12]), (9, [0, 1]), (10, [0, 1, 5]), (11, [0]), (12, [0, 1, 5]), (13, [1]), (14, [1])]
noncomputable def s70 : SCode := toS (planAt pl70) (keepAt kp70) (Tryd.f70.body.getD .skip)
theorem fn70 : FnIs Tryd.prog 70 35 [.tmp 4] s70 := FnIs.mk' (planAt pl70) (keepAt kp70) (by kernel_rfl)
def pl71 : List (Nat × Plan) := []
def kp71 : List (Nat × List Nat) := [(0, [0, 1]), (1, [0, 1, 4]), (2, [0, 1, 4, 6]), (3, [0, 1, 4, 6]), (4, [0, 1, 4, 6]), (5, [4, 6, 7]), (6, [4, 6, 7, 8]), (7, [4, 7]), (8, [4, 7, 8]), (9, [0, 1, 4, 6]), (10, [0, 1, 4, 6]), (11, [0, 1, 4]), (12, [0, 1, 4, 6]), (13, [4]), (14, [0, 1, 4, 6]), (15, [0, 1, 4]), (16, [4])]
noncomputable def s71 : SCode := toS (planAt pl71) (keepAt kp71) (Tryd.f71.body.getD .skip)
theorem fn71 : FnIs Tryd.prog 71 60 [.cell 4 34, .tmp 5] s71 := FnIs.mk' (planAt pl71) (keepAt kp71) (by kernel_rfl)
def pl73 : List (Nat × Plan) := []
def kp73 : List (Nat × List Nat) := [(0, [0]), (1, [0])]
noncomputable def s73 : SCode := toS (planAt pl73) (keepAt kp73) (Tryd.f73.body.getD .skip)
theorem fn73 : FnIs Tryd.prog 73 9 [.tmp 2] s73 := FnIs.mk' (planAt pl73) (keepAt kp73) (by kernel_rfl)
def pl74 : List (Nat × Plan) := []
def kp74 : List (Nat × List Nat) := [(0, [0]), (1, [0])]
noncomputable def s74 : SCode := toS (planAt pl74) (keepAt kp74) (Tryd.f74.body.getD .skip)
theorem fn74 : FnIs Tryd.prog 74 13 [.tmp 2] s74 := FnIs.mk' (planAt pl74) (keepAt kp74) (by kernel_rfl)
def pl75 : List (Nat × Plan) := []
def kp75 : List (Nat × List Nat) := [(0, [0, 1, 2]), (1, [0, 1, 2]), (2, [0, 1, 2, 7]), (3, [0, 1, 2, 7]), (4, [1, 7])]
noncomputable def s75 : SCode := toS (planAt pl75) (keepAt kp75) (Tryd.f75.body.getD .skip)
theorem fn75 : FnIs Tryd.prog 75 25 [.tmp 6] s75 := FnIs.mk' (planAt pl75) (keepAt kp75) (by kernel_rfl)
def pl76 : List (Nat × Plan) := []
def kp76 : List (Nat × List Nat) := [(0, [0]), (1, [0])]
noncomputable def s76 : SCode := toS (planAt pl76) (keepAt kp76) (Tryd.f76.body.getD .skip)
theorem fn76 : FnIs Tryd.prog 76 13 [.tmp 2] s76 := FnIs.mk' (planAt pl76) (keepAt kp76) (by kernel_rfl)
def pl77 : List (Nat × Plan) := []
def kp77 : List (Nat × List Nat) := [(0, [0]), (1, [0])]
noncomputable def s77 : SCode := toS (planAt pl77) (keepAt kp77) (Tryd.f77.body.getD .skip)
theorem fn77 : FnIs Tryd.prog 77 9 [.tmp 2] s77 := FnIs.mk' (planAt pl77) (keepAt kp77) (by kernel_rfl)
def pl78 : List (Nat × Plan) := []
def kp78 : List (Nat × List Nat) := [(0, [0, 1]), (1, [0, 1, 4]), (2, [0, 1, 4, 6]), (3, [0, 1, 4]), (4, [0, 1, 4, 6]), (5, [0, 1, 4, 6]), (6, [0, 1, 4, 6, 7]), (7, [0, 1, 4, 6, 7, 8, 9]), (8, [4]), (9, [0, 1, 4, 6, 7, 8]), (10, [4]), (11, [4, 7, 8])]
noncomputable def s78 : SCode := toS (planAt pl78) (keepAt kp78) (Tryd.f78.body.getD .skip)
theorem fn78 : FnIs Tryd.prog 78 59 [.cell 4 34, .tmp 5] s78 := FnIs.mk' (planAt pl78) (keepAt kp78) (by kernel_rfl)
end Go.Aug
