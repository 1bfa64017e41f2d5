/- The facts of the program's functions, and the contracts of its lexer and parser; conditions stand in each contract. -/
import Derived.Test.YtckdiafomldepaaGreatDoorAugFour
import Derived.Test.YtckdiafomldepaaGreatDoorAugFive
import Derived.Test.YtckdiafomldepaaGreatDoorProg
import Derived.KernelRfl
set_option linter.all false
set_option linter.unusedVariables false
set_option linter.unusedSimpArgs false
set_option linter.unusedSectionVars false

/- The facts of the seat's types and functions that the reckoning asks; by program (gd.sh, gen2.py, mkpq.py). -/
namespace Go.Aug
open Go.Proofs
set_option maxRecDepth 100000
structure EbG where
  eb : Nat → Addr
  on : Nat → Bool
  mm : Nat → Option Obj
class On (e : EbG) (g : Nat) : Prop where
  on : e.on g = true
def panL : List Nat := [20, 21, 22, 23, 32, 33, 36, 37, 40, 41, 48, 49, 50, 51, 52, 53, 54, 55, 56, 57, 58, 65, 67, 70, 71, 72, 73, 77, 82]
def seatV (e : EbG) : Env := ⟨155, 157, e.eb, fun g => if e.on g = true then some (.sent g) else none, e.mm, fun _ => false, fun f => panL.contains f⟩
@[go_sem] theorem seatV_nz {e : EbG} {t : TypeId} : (seatV e).nz t = false := Eq.trans rfl rfl
theorem seatV_on {e : EbG} {g : Nat} (h : On e g) : (seatV e).G g = some (.sent g) := if_pos h.on
@[go_sem] theorem q_ifcT_93 : ifcT Tryz.prog 93 = true := by kernel_rfl
@[go_sem] theorem q_pan_5 {eb : EbG} : (seatV eb).pan 5 = false := by kernel_rfl
@[go_sem] theorem q_pan_6 {eb : EbG} : (seatV eb).pan 6 = false := by kernel_rfl
@[go_sem] theorem q_pan_9 {eb : EbG} : (seatV eb).pan 9 = false := by kernel_rfl
@[go_sem] theorem q_pan_10 {eb : EbG} : (seatV eb).pan 10 = false := by kernel_rfl
@[go_sem] theorem q_pan_11 {eb : EbG} : (seatV eb).pan 11 = false := by kernel_rfl
@[go_sem] theorem q_pan_12 {eb : EbG} : (seatV eb).pan 12 = false := by kernel_rfl
@[go_sem] theorem q_pan_13 {eb : EbG} : (seatV eb).pan 13 = false := by kernel_rfl
@[go_sem] theorem q_pan_14 {eb : EbG} : (seatV eb).pan 14 = false := by kernel_rfl
@[go_sem] theorem q_pan_15 {eb : EbG} : (seatV eb).pan 15 = false := by kernel_rfl
@[go_sem] theorem q_pan_16 {eb : EbG} : (seatV eb).pan 16 = false := by kernel_rfl
@[go_sem] theorem q_pan_17 {eb : EbG} : (seatV eb).pan 17 = false := by kernel_rfl
@[go_sem] theorem q_pan_18 {eb : EbG} : (seatV eb).pan 18 = false := by kernel_rfl
@[go_sem] theorem q_pan_19 {eb : EbG} : (seatV eb).pan 19 = false := by kernel_rfl
@[go_sem] theorem q_pan_21 {eb : EbG} : (seatV eb).pan 21 = true := by kernel_rfl
@[go_sem] theorem q_pan_22 {eb : EbG} : (seatV eb).pan 22 = true := by kernel_rfl
@[go_sem] theorem q_pan_23 {eb : EbG} : (seatV eb).pan 23 = true := by kernel_rfl
@[go_sem] theorem q_pan_24 {eb : EbG} : (seatV eb).pan 24 = false := by kernel_rfl
@[go_sem] theorem q_pan_25 {eb : EbG} : (seatV eb).pan 25 = false := by kernel_rfl
@[go_sem] theorem q_pan_26 {eb : EbG} : (seatV eb).pan 26 = false := by kernel_rfl
@[go_sem] theorem q_pan_28 {eb : EbG} : (seatV eb).pan 28 = false := by kernel_rfl
@[go_sem] theorem q_pan_29 {eb : EbG} : (seatV eb).pan 29 = false := by kernel_rfl
@[go_sem] theorem q_pan_31 {eb : EbG} : (seatV eb).pan 31 = false := by kernel_rfl
@[go_sem] theorem q_pan_33 {eb : EbG} : (seatV eb).pan 33 = true := by kernel_rfl
@[go_sem] theorem q_pan_34 {eb : EbG} : (seatV eb).pan 34 = false := by kernel_rfl
@[go_sem] theorem q_pan_35 {eb : EbG} : (seatV eb).pan 35 = false := by kernel_rfl
@[go_sem] theorem q_pan_37 {eb : EbG} : (seatV eb).pan 37 = true := by kernel_rfl
@[go_sem] theorem q_pan_38 {eb : EbG} : (seatV eb).pan 38 = false := by kernel_rfl
@[go_sem] theorem q_pan_39 {eb : EbG} : (seatV eb).pan 39 = false := by kernel_rfl
@[go_sem] theorem q_pan_41 {eb : EbG} : (seatV eb).pan 41 = true := by kernel_rfl
@[go_sem] theorem q_pan_42 {eb : EbG} : (seatV eb).pan 42 = false := by kernel_rfl
@[go_sem] theorem q_pan_43 {eb : EbG} : (seatV eb).pan 43 = false := by kernel_rfl
@[go_sem] theorem q_pan_44 {eb : EbG} : (seatV eb).pan 44 = false := by kernel_rfl
@[go_sem] theorem q_pan_45 {eb : EbG} : (seatV eb).pan 45 = false := by kernel_rfl
@[go_sem] theorem q_pan_47 {eb : EbG} : (seatV eb).pan 47 = false := by kernel_rfl
@[go_sem] theorem q_pan_48 {eb : EbG} : (seatV eb).pan 48 = true := by kernel_rfl
@[go_sem] theorem q_pan_49 {eb : EbG} : (seatV eb).pan 49 = true := by kernel_rfl
@[go_sem] theorem q_pan_50 {eb : EbG} : (seatV eb).pan 50 = true := by kernel_rfl
@[go_sem] theorem q_pan_51 {eb : EbG} : (seatV eb).pan 51 = true := by kernel_rfl
@[go_sem] theorem q_pan_52 {eb : EbG} : (seatV eb).pan 52 = true := by kernel_rfl
@[go_sem] theorem q_pan_54 {eb : EbG} : (seatV eb).pan 54 = true := by kernel_rfl
@[go_sem] theorem q_pan_56 {eb : EbG} : (seatV eb).pan 56 = true := by kernel_rfl
@[go_sem] theorem q_pan_57 {eb : EbG} : (seatV eb).pan 57 = true := by kernel_rfl
@[go_sem] theorem q_pan_59 {eb : EbG} : (seatV eb).pan 59 = false := by kernel_rfl
@[go_sem] theorem q_pan_60 {eb : EbG} : (seatV eb).pan 60 = false := by kernel_rfl
@[go_sem] theorem q_pan_61 {eb : EbG} : (seatV eb).pan 61 = false := by kernel_rfl
@[go_sem] theorem q_pan_62 {eb : EbG} : (seatV eb).pan 62 = false := by kernel_rfl
@[go_sem] theorem q_pan_65 {eb : EbG} : (seatV eb).pan 65 = true := by kernel_rfl
@[go_sem] theorem q_pan_66 {eb : EbG} : (seatV eb).pan 66 = false := by kernel_rfl
@[go_sem] theorem q_pan_68 {eb : EbG} : (seatV eb).pan 68 = false := by kernel_rfl
@[go_sem] theorem q_pan_70 {eb : EbG} : (seatV eb).pan 70 = true := by kernel_rfl
@[go_sem] theorem q_pan_73 {eb : EbG} : (seatV eb).pan 73 = true := by kernel_rfl
@[go_sem] theorem q_pan_74 {eb : EbG} : (seatV eb).pan 74 = false := by kernel_rfl
@[go_sem] theorem q_pan_76 {eb : EbG} : (seatV eb).pan 76 = false := by kernel_rfl
@[go_sem] theorem q_pan_78 {eb : EbG} : (seatV eb).pan 78 = false := by kernel_rfl
@[go_sem] theorem q_pan_80 {eb : EbG} : (seatV eb).pan 80 = false := by kernel_rfl
@[go_sem] theorem q_pan_81 {eb : EbG} : (seatV eb).pan 81 = false := by kernel_rfl
@[go_sem] theorem q_pan_83 {eb : EbG} : (seatV eb).pan 83 = false := by kernel_rfl
@[go_sem] theorem q_pan_84 {eb : EbG} : (seatV eb).pan 84 = false := by kernel_rfl
@[go_sem] theorem q_pan_85 {eb : EbG} : (seatV eb).pan 85 = false := by kernel_rfl
@[go_sem] theorem q_pan_86 {eb : EbG} : (seatV eb).pan 86 = false := by kernel_rfl
@[go_sem] theorem q_pan_87 {eb : EbG} : (seatV eb).pan 87 = false := by kernel_rfl
@[go_sem] theorem q_pan_88 {eb : EbG} : (seatV eb).pan 88 = false := by kernel_rfl
@[go_sem] theorem q_pan_89 {eb : EbG} : (seatV eb).pan 89 = false := by kernel_rfl
@[go_sem] theorem q_pan_90 {eb : EbG} : (seatV eb).pan 90 = false := by kernel_rfl
@[go_sem] theorem q_pan_91 {eb : EbG} : (seatV eb).pan 91 = false := by kernel_rfl
@[go_sem] theorem q_pan_92 {eb : EbG} : (seatV eb).pan 92 = false := by kernel_rfl
@[go_sem] theorem q_pan_93 {eb : EbG} : (seatV eb).pan 93 = false := by kernel_rfl
@[go_sem] theorem q_pan_94 {eb : EbG} : (seatV eb).pan 94 = false := by kernel_rfl
@[go_sem] theorem q_pan_95 {eb : EbG} : (seatV eb).pan 95 = false := by kernel_rfl
@[go_sem] theorem q_pan_96 {eb : EbG} : (seatV eb).pan 96 = false := by kernel_rfl
@[go_sem] theorem q_pan_97 {eb : EbG} : (seatV eb).pan 97 = false := by kernel_rfl
@[go_sem] theorem q_pan_98 {eb : EbG} : (seatV eb).pan 98 = false := by kernel_rfl
@[go_sem] theorem q_pan_99 {eb : EbG} : (seatV eb).pan 99 = false := by kernel_rfl
@[go_sem] theorem q_pan_101 {eb : EbG} : (seatV eb).pan 101 = false := by kernel_rfl
@[go_sem] theorem q_pan_102 {eb : EbG} : (seatV eb).pan 102 = false := by kernel_rfl
theorem mixed : Tryz.prog.follows .mixedOrders = true := by kernel_rfl
@[go_sem] theorem q_appOf_117 : appOf Tryz.prog 117 = (some (3, (1, 8))) := by kernel_rfl
@[go_sem] theorem q_appOf_23 : appOf Tryz.prog 23 = (some (61, (20, 336))) := by kernel_rfl
@[go_sem] theorem q_appOf_33 : appOf Tryz.prog 33 = (some (35, (4, 56))) := by kernel_rfl
@[go_sem] theorem q_appOf_40 : appOf Tryz.prog 40 = (some (42, (12, 184))) := by kernel_rfl
@[go_sem] theorem q_appOf_47 : appOf Tryz.prog 47 = (some (49, (3, 48))) := by kernel_rfl
@[go_sem] theorem q_appOf_57 : appOf Tryz.prog 57 = (some (9, (1, 16))) := by kernel_rfl
@[go_sem] theorem q_appOf_58 : appOf Tryz.prog 58 = (some (98, (2, 40))) := by kernel_rfl
@[go_sem] theorem q_appOf_59 : appOf Tryz.prog 59 = (some (4, (1, 1))) := by kernel_rfl
@[go_sem] theorem q_appOf_64 : appOf Tryz.prog 64 = (some (110, (3, 32))) := by kernel_rfl
@[go_sem] theorem q_arrOf_116 : arrOf Tryz.prog 116 = (some (4, (false, 1))) := by kernel_rfl
@[go_sem] theorem q_bldOf_110 : bldOf Tryz.prog 110 = (some ([(.d (.int .i64 (0 : Int))), (.d (.str (ByteArray.mk (Array.mk [])))), (.d (.int .i64 (0 : Int)))], [(0, 1), (1, 1), (2, 1)])) := by kernel_rfl
@[go_sem] theorem q_bldOf_116 : bldOf Tryz.prog 116 = (some ([(.d (.str (ByteArray.mk (Array.mk [])))), (.d (.str (ByteArray.mk (Array.mk [])))), (.d (.str (ByteArray.mk (Array.mk [])))), (.d (.str (ByteArray.mk (Array.mk []))))], [(0, 1), (1, 1), (2, 1), (3, 1)])) := by kernel_rfl
@[go_sem] theorem q_bldOf_35 : bldOf Tryz.prog 35 = (some ([(.d (.int .i64 (0 : Int))), (.d (.str (ByteArray.mk (Array.mk [])))), (.d (.int .i64 (0 : Int))), .nils], [(0, 1), (1, 1), (2, 1), (3, 1)])) := by kernel_rfl
@[go_sem] theorem q_bldOf_42 : bldOf Tryz.prog 42 = (some ([(.d (.int .i64 (0 : Int))), (.d (.int .i64 (0 : Int))), (.d (.str (ByteArray.mk (Array.mk [])))), (.d (.int .i64 (0 : Int))), .nils, (.d (.int .i64 (0 : Int))), (.d (.str (ByteArray.mk (Array.mk [])))), (.d (.int .i64 (0 : Int))), .nils, (.d (.str (ByteArray.mk (Array.mk [])))), .nils, .nils], [(0, 1), (1, 4), (5, 4), (9, 1), (10, 1), (11, 1)])) := by kernel_rfl
@[go_sem] theorem q_bldOf_49 : bldOf Tryz.prog 49 = (some ([(.d (.bool false)), (.d (.str (ByteArray.mk (Array.mk [])))), .nils], [(0, 1), (1, 1), (2, 1)])) := by kernel_rfl
@[go_sem] theorem q_bldOf_61 : bldOf Tryz.prog 61 = (some ([(.d (.int .i64 (0 : Int))), (.d (.str (ByteArray.mk (Array.mk [])))), .nils, .nils, .nils, .nils, (.d (.int .i64 (0 : Int))), .nils, (.d (.int .i64 (0 : Int))), (.d (.int .i64 (0 : Int))), (.d (.str (ByteArray.mk (Array.mk [])))), (.d (.int .i64 (0 : Int))), .nils, (.d (.int .i64 (0 : Int))), (.d (.str (ByteArray.mk (Array.mk [])))), (.d (.int .i64 (0 : Int))), .nils, (.d (.str (ByteArray.mk (Array.mk [])))), .nils, .nils], [(0, 1), (1, 1), (2, 1), (3, 1), (4, 1), (5, 1), (6, 1), (7, 1), (8, 12)])) := by kernel_rfl
@[go_sem] theorem q_bldOf_66 : bldOf Tryz.prog 66 = (some ([.nils, (.d (.int .i64 (0 : Int)))], [(0, 1), (1, 1)])) := by kernel_rfl
@[go_sem] theorem q_bldOf_76 : bldOf Tryz.prog 76 = (some ([.nils, (.d (.int .i64 (0 : Int))), (.d (.int .i64 (0 : Int)))], [(0, 1), (1, 1), (2, 1)])) := by kernel_rfl
@[go_sem] theorem q_bldOf_93 : bldOf Tryz.prog 93 = (some ([(.d (.raw .nilIface))], [(0, 1)])) := by kernel_rfl
@[go_sem] theorem q_bldOf_98 : bldOf Tryz.prog 98 = (some ([(.d (.str (ByteArray.mk (Array.mk [])))), .nils], [(0, 1), (1, 1)])) := by kernel_rfl
@[go_sem] theorem q_bsOf_117 : bsOf Tryz.prog 117 = (some (3, (1, false))) := by kernel_rfl
@[go_sem] theorem q_bsOf_129 : bsOf Tryz.prog 129 = (some (5, (1, true))) := by kernel_rfl
@[go_sem] theorem q_bsOf_23 : bsOf Tryz.prog 23 = (some (61, (20, false))) := by kernel_rfl
@[go_sem] theorem q_bsOf_33 : bsOf Tryz.prog 33 = (some (35, (4, false))) := by kernel_rfl
@[go_sem] theorem q_bsOf_40 : bsOf Tryz.prog 40 = (some (42, (12, false))) := by kernel_rfl
@[go_sem] theorem q_bsOf_47 : bsOf Tryz.prog 47 = (some (49, (3, false))) := by kernel_rfl
@[go_sem] theorem q_bsOf_57 : bsOf Tryz.prog 57 = (some (9, (1, false))) := by kernel_rfl
@[go_sem] theorem q_bsOf_58 : bsOf Tryz.prog 58 = (some (98, (2, false))) := by kernel_rfl
@[go_sem] theorem q_bsOf_59 : bsOf Tryz.prog 59 = (some (4, (1, false))) := by kernel_rfl
@[go_sem] theorem q_bsOf_64 : bsOf Tryz.prog 64 = (some (110, (3, false))) := by kernel_rfl
@[go_sem] theorem q_bsOf_78 : bsOf Tryz.prog 78 = (some (25, (1, false))) := by kernel_rfl
@[go_sem] theorem q_callable_10 : callable Tryz.prog 10 = true := by kernel_rfl
@[go_sem] theorem q_callable_101 : callable Tryz.prog 101 = true := by kernel_rfl
@[go_sem] theorem q_callable_102 : callable Tryz.prog 102 = true := by kernel_rfl
@[go_sem] theorem q_callable_11 : callable Tryz.prog 11 = true := by kernel_rfl
@[go_sem] theorem q_callable_12 : callable Tryz.prog 12 = true := by kernel_rfl
@[go_sem] theorem q_callable_13 : callable Tryz.prog 13 = true := by kernel_rfl
@[go_sem] theorem q_callable_14 : callable Tryz.prog 14 = true := by kernel_rfl
@[go_sem] theorem q_callable_15 : callable Tryz.prog 15 = true := by kernel_rfl
@[go_sem] theorem q_callable_16 : callable Tryz.prog 16 = true := by kernel_rfl
@[go_sem] theorem q_callable_17 : callable Tryz.prog 17 = true := by kernel_rfl
@[go_sem] theorem q_callable_18 : callable Tryz.prog 18 = true := by kernel_rfl
@[go_sem] theorem q_callable_19 : callable Tryz.prog 19 = true := by kernel_rfl
@[go_sem] theorem q_callable_21 : callable Tryz.prog 21 = true := by kernel_rfl
@[go_sem] theorem q_callable_22 : callable Tryz.prog 22 = true := by kernel_rfl
@[go_sem] theorem q_callable_23 : callable Tryz.prog 23 = true := by kernel_rfl
@[go_sem] theorem q_callable_24 : callable Tryz.prog 24 = true := by kernel_rfl
@[go_sem] theorem q_callable_25 : callable Tryz.prog 25 = true := by kernel_rfl
@[go_sem] theorem q_callable_26 : callable Tryz.prog 26 = true := by kernel_rfl
@[go_sem] theorem q_callable_28 : callable Tryz.prog 28 = true := by kernel_rfl
@[go_sem] theorem q_callable_29 : callable Tryz.prog 29 = true := by kernel_rfl
@[go_sem] theorem q_callable_31 : callable Tryz.prog 31 = true := by kernel_rfl
@[go_sem] theorem q_callable_33 : callable Tryz.prog 33 = true := by kernel_rfl
@[go_sem] theorem q_callable_34 : callable Tryz.prog 34 = true := by kernel_rfl
@[go_sem] theorem q_callable_35 : callable Tryz.prog 35 = true := by kernel_rfl
@[go_sem] theorem q_callable_37 : callable Tryz.prog 37 = true := by kernel_rfl
@[go_sem] theorem q_callable_38 : callable Tryz.prog 38 = true := by kernel_rfl
@[go_sem] theorem q_callable_39 : callable Tryz.prog 39 = true := by kernel_rfl
@[go_sem] theorem q_callable_41 : callable Tryz.prog 41 = true := by kernel_rfl
@[go_sem] theorem q_callable_42 : callable Tryz.prog 42 = true := by kernel_rfl
@[go_sem] theorem q_callable_43 : callable Tryz.prog 43 = true := by kernel_rfl
@[go_sem] theorem q_callable_44 : callable Tryz.prog 44 = true := by kernel_rfl
@[go_sem] theorem q_callable_45 : callable Tryz.prog 45 = true := by kernel_rfl
@[go_sem] theorem q_callable_47 : callable Tryz.prog 47 = true := by kernel_rfl
@[go_sem] theorem q_callable_48 : callable Tryz.prog 48 = true := by kernel_rfl
@[go_sem] theorem q_callable_49 : callable Tryz.prog 49 = true := by kernel_rfl
@[go_sem] theorem q_callable_5 : callable Tryz.prog 5 = true := by kernel_rfl
@[go_sem] theorem q_callable_50 : callable Tryz.prog 50 = true := by kernel_rfl
@[go_sem] theorem q_callable_51 : callable Tryz.prog 51 = true := by kernel_rfl
@[go_sem] theorem q_callable_52 : callable Tryz.prog 52 = true := by kernel_rfl
@[go_sem] theorem q_callable_54 : callable Tryz.prog 54 = true := by kernel_rfl
@[go_sem] theorem q_callable_56 : callable Tryz.prog 56 = true := by kernel_rfl
@[go_sem] theorem q_callable_57 : callable Tryz.prog 57 = true := by kernel_rfl
@[go_sem] theorem q_callable_59 : callable Tryz.prog 59 = true := by kernel_rfl
@[go_sem] theorem q_callable_6 : callable Tryz.prog 6 = true := by kernel_rfl
@[go_sem] theorem q_callable_60 : callable Tryz.prog 60 = true := by kernel_rfl
@[go_sem] theorem q_callable_61 : callable Tryz.prog 61 = true := by kernel_rfl
@[go_sem] theorem q_callable_62 : callable Tryz.prog 62 = true := by kernel_rfl
@[go_sem] theorem q_callable_65 : callable Tryz.prog 65 = true := by kernel_rfl
@[go_sem] theorem q_callable_66 : callable Tryz.prog 66 = true := by kernel_rfl
@[go_sem] theorem q_callable_68 : callable Tryz.prog 68 = true := by kernel_rfl
@[go_sem] theorem q_callable_70 : callable Tryz.prog 70 = true := by kernel_rfl
@[go_sem] theorem q_callable_73 : callable Tryz.prog 73 = true := by kernel_rfl
@[go_sem] theorem q_callable_74 : callable Tryz.prog 74 = true := by kernel_rfl
@[go_sem] theorem q_callable_76 : callable Tryz.prog 76 = true := by kernel_rfl
@[go_sem] theorem q_callable_78 : callable Tryz.prog 78 = true := by kernel_rfl
@[go_sem] theorem q_callable_80 : callable Tryz.prog 80 = true := by kernel_rfl
@[go_sem] theorem q_callable_81 : callable Tryz.prog 81 = true := by kernel_rfl
@[go_sem] theorem q_callable_83 : callable Tryz.prog 83 = true := by kernel_rfl
@[go_sem] theorem q_callable_84 : callable Tryz.prog 84 = true := by kernel_rfl
@[go_sem] theorem q_callable_85 : callable Tryz.prog 85 = true := by kernel_rfl
@[go_sem] theorem q_callable_86 : callable Tryz.prog 86 = true := by kernel_rfl
@[go_sem] theorem q_callable_87 : callable Tryz.prog 87 = true := by kernel_rfl
@[go_sem] theorem q_callable_88 : callable Tryz.prog 88 = true := by kernel_rfl
@[go_sem] theorem q_callable_89 : callable Tryz.prog 89 = true := by kernel_rfl
@[go_sem] theorem q_callable_9 : callable Tryz.prog 9 = true := by kernel_rfl
@[go_sem] theorem q_callable_90 : callable Tryz.prog 90 = true := by kernel_rfl
@[go_sem] theorem q_callable_91 : callable Tryz.prog 91 = true := by kernel_rfl
@[go_sem] theorem q_callable_92 : callable Tryz.prog 92 = true := by kernel_rfl
@[go_sem] theorem q_callable_93 : callable Tryz.prog 93 = true := by kernel_rfl
@[go_sem] theorem q_callable_94 : callable Tryz.prog 94 = true := by kernel_rfl
@[go_sem] theorem q_callable_95 : callable Tryz.prog 95 = true := by kernel_rfl
@[go_sem] theorem q_callable_96 : callable Tryz.prog 96 = true := by kernel_rfl
@[go_sem] theorem q_callable_97 : callable Tryz.prog 97 = true := by kernel_rfl
@[go_sem] theorem q_callable_98 : callable Tryz.prog 98 = true := by kernel_rfl
@[go_sem] theorem q_callable_99 : callable Tryz.prog 99 = true := by kernel_rfl
@[go_sem] theorem q_convOf_5_3 : convOf Tryz.prog 5 3 = (some (Conv.int .i64)) := by kernel_rfl
@[go_sem] theorem q_errTy_V_25 {eb : EbG} : errTy Tryz.prog (seatV eb) 25 = true := by kernel_rfl
@[go_sem] theorem q_fieldOff_110_0 : fieldOff Tryz.prog 110 0 = (some 0) := by kernel_rfl
@[go_sem] theorem q_fieldOff_110_1 : fieldOff Tryz.prog 110 1 = (some 1) := by kernel_rfl
@[go_sem] theorem q_fieldOff_110_2 : fieldOff Tryz.prog 110 2 = (some 2) := by kernel_rfl
@[go_sem] theorem q_fieldOff_35_0 : fieldOff Tryz.prog 35 0 = (some 0) := by kernel_rfl
@[go_sem] theorem q_fieldOff_35_1 : fieldOff Tryz.prog 35 1 = (some 1) := by kernel_rfl
@[go_sem] theorem q_fieldOff_35_2 : fieldOff Tryz.prog 35 2 = (some 2) := by kernel_rfl
@[go_sem] theorem q_fieldOff_35_3 : fieldOff Tryz.prog 35 3 = (some 3) := by kernel_rfl
@[go_sem] theorem q_fieldOff_42_0 : fieldOff Tryz.prog 42 0 = (some 0) := by kernel_rfl
@[go_sem] theorem q_fieldOff_42_1 : fieldOff Tryz.prog 42 1 = (some 1) := by kernel_rfl
@[go_sem] theorem q_fieldOff_42_2 : fieldOff Tryz.prog 42 2 = (some 5) := by kernel_rfl
@[go_sem] theorem q_fieldOff_42_3 : fieldOff Tryz.prog 42 3 = (some 9) := by kernel_rfl
@[go_sem] theorem q_fieldOff_42_4 : fieldOff Tryz.prog 42 4 = (some 10) := by kernel_rfl
@[go_sem] theorem q_fieldOff_42_5 : fieldOff Tryz.prog 42 5 = (some 11) := by kernel_rfl
@[go_sem] theorem q_fieldOff_49_0 : fieldOff Tryz.prog 49 0 = (some 0) := by kernel_rfl
@[go_sem] theorem q_fieldOff_49_1 : fieldOff Tryz.prog 49 1 = (some 1) := by kernel_rfl
@[go_sem] theorem q_fieldOff_49_2 : fieldOff Tryz.prog 49 2 = (some 2) := by kernel_rfl
@[go_sem] theorem q_fieldOff_61_3 : fieldOff Tryz.prog 61 3 = (some 3) := by kernel_rfl
@[go_sem] theorem q_fieldOff_61_6 : fieldOff Tryz.prog 61 6 = (some 6) := by kernel_rfl
@[go_sem] theorem q_fieldOff_61_8 : fieldOff Tryz.prog 61 8 = (some 8) := by kernel_rfl
@[go_sem] theorem q_fieldOff_66_0 : fieldOff Tryz.prog 66 0 = (some 0) := by kernel_rfl
@[go_sem] theorem q_fieldOff_66_1 : fieldOff Tryz.prog 66 1 = (some 1) := by kernel_rfl
@[go_sem] theorem q_fieldOff_76_0 : fieldOff Tryz.prog 76 0 = (some 0) := by kernel_rfl
@[go_sem] theorem q_fieldOff_76_1 : fieldOff Tryz.prog 76 1 = (some 1) := by kernel_rfl
@[go_sem] theorem q_fieldOff_76_2 : fieldOff Tryz.prog 76 2 = (some 2) := by kernel_rfl
@[go_sem] theorem q_fieldOff_93_0 : fieldOff Tryz.prog 93 0 = (some 0) := by kernel_rfl
@[go_sem] theorem q_idxOf_129 : idxOf Tryz.prog 129 = (some 1) := by kernel_rfl
@[go_sem] theorem q_idxOf_23 : idxOf Tryz.prog 23 = (some 20) := by kernel_rfl
@[go_sem] theorem q_idxOf_33 : idxOf Tryz.prog 33 = (some 4) := by kernel_rfl
@[go_sem] theorem q_idxOf_40 : idxOf Tryz.prog 40 = (some 12) := by kernel_rfl
@[go_sem] theorem q_idxOf_47 : idxOf Tryz.prog 47 = (some 3) := by kernel_rfl
@[go_sem] theorem q_idxOf_57 : idxOf Tryz.prog 57 = (some 1) := by kernel_rfl
@[go_sem] theorem q_idxOf_64 : idxOf Tryz.prog 64 = (some 3) := by kernel_rfl
@[go_sem] theorem q_idxOf_78 : idxOf Tryz.prog 78 = (some 1) := by kernel_rfl
@[go_sem] theorem q_isBoolT_4 : isBoolT Tryz.prog 4 = true := by kernel_rfl
@[go_sem] theorem q_isIface_25 : isIface Tryz.prog 25 = true := by kernel_rfl
@[go_sem] theorem q_isSliceT_129 : isSliceT Tryz.prog 129 = true := by kernel_rfl
@[go_sem] theorem q_isSliceT_23 : isSliceT Tryz.prog 23 = true := by kernel_rfl
@[go_sem] theorem q_isSliceT_33 : isSliceT Tryz.prog 33 = true := by kernel_rfl
@[go_sem] theorem q_isSliceT_40 : isSliceT Tryz.prog 40 = true := by kernel_rfl
@[go_sem] theorem q_isSliceT_47 : isSliceT Tryz.prog 47 = true := by kernel_rfl
@[go_sem] theorem q_isSliceT_57 : isSliceT Tryz.prog 57 = true := by kernel_rfl
@[go_sem] theorem q_isSliceT_59 : isSliceT Tryz.prog 59 = true := by kernel_rfl
@[go_sem] theorem q_isSliceT_64 : isSliceT Tryz.prog 64 = true := by kernel_rfl
@[go_sem] theorem q_isSliceT_78 : isSliceT Tryz.prog 78 = true := by kernel_rfl
@[go_sem] theorem q_isStrT_9 : isStrT Tryz.prog 9 = true := by kernel_rfl
@[go_sem] theorem q_partAt_110_0 : partAt Tryz.prog 110 0 = (some ((false, 1), 0)) := by kernel_rfl
@[go_sem] theorem q_partAt_110_1 : partAt Tryz.prog 110 1 = (some ((false, 1), 1)) := by kernel_rfl
@[go_sem] theorem q_sameSl_129_129 : sameSl Tryz.prog 129 129 = true := by kernel_rfl
@[go_sem] theorem q_sameSl_5_3 : sameSl Tryz.prog 5 3 = false := by kernel_rfl
@[go_sem] theorem q_sliceOf_9 : sliceOf Tryz.prog 9 = (some none) := by kernel_rfl
@[go_sem] theorem q_tshape_110 : tshape Tryz.prog 110 = (some (true, 3)) := by kernel_rfl
@[go_sem] theorem q_tshape_23 : tshape Tryz.prog 23 = (some (false, 1)) := by kernel_rfl
@[go_sem] theorem q_tshape_25 : tshape Tryz.prog 25 = (some (false, 1)) := by kernel_rfl
@[go_sem] theorem q_tshape_3 : tshape Tryz.prog 3 = (some (false, 1)) := by kernel_rfl
@[go_sem] theorem q_tshape_33 : tshape Tryz.prog 33 = (some (false, 1)) := by kernel_rfl
@[go_sem] theorem q_tshape_35 : tshape Tryz.prog 35 = (some (true, 4)) := by kernel_rfl
@[go_sem] theorem q_tshape_4 : tshape Tryz.prog 4 = (some (false, 1)) := by kernel_rfl
@[go_sem] theorem q_tshape_40 : tshape Tryz.prog 40 = (some (false, 1)) := by kernel_rfl
@[go_sem] theorem q_tshape_42 : tshape Tryz.prog 42 = (some (true, 12)) := by kernel_rfl
@[go_sem] theorem q_tshape_47 : tshape Tryz.prog 47 = (some (false, 1)) := by kernel_rfl
@[go_sem] theorem q_tshape_49 : tshape Tryz.prog 49 = (some (true, 3)) := by kernel_rfl
@[go_sem] theorem q_tshape_5 : tshape Tryz.prog 5 = (some (false, 1)) := by kernel_rfl
@[go_sem] theorem q_tshape_58 : tshape Tryz.prog 58 = (some (false, 1)) := by kernel_rfl
@[go_sem] theorem q_tshape_61 : tshape Tryz.prog 61 = (some (true, 20)) := by kernel_rfl
@[go_sem] theorem q_tshape_63 : tshape Tryz.prog 63 = (some (false, 1)) := by kernel_rfl
@[go_sem] theorem q_tshape_64 : tshape Tryz.prog 64 = (some (false, 1)) := by kernel_rfl
@[go_sem] theorem q_tshape_9 : tshape Tryz.prog 9 = (some (false, 1)) := by kernel_rfl
@[go_sem] theorem q_tshape_93 : tshape Tryz.prog 93 = (some (true, 1)) := by kernel_rfl
@[go_sem] theorem q_tshape_98 : tshape Tryz.prog 98 = (some (true, 2)) := by kernel_rfl
@[go_sem] theorem q_zeroOf_110 : zeroOf Tryz.prog 110 = (some [(.d (.int .i64 (0 : Int))), (.d (.str (ByteArray.mk (Array.mk [])))), (.d (.int .i64 (0 : Int)))]) := by kernel_rfl
@[go_sem] theorem q_zeroOf_23 : zeroOf Tryz.prog 23 = (some [.nils]) := by kernel_rfl
@[go_sem] theorem q_zeroOf_25 : zeroOf Tryz.prog 25 = (some [(.d (.raw .nilIface))]) := by kernel_rfl
@[go_sem] theorem q_zeroOf_35 : zeroOf Tryz.prog 35 = (some [(.d (.int .i64 (0 : Int))), (.d (.str (ByteArray.mk (Array.mk [])))), (.d (.int .i64 (0 : Int))), .nils]) := by kernel_rfl
@[go_sem] theorem q_zeroOf_42 : zeroOf Tryz.prog 42 = (some [(.d (.int .i64 (0 : Int))), (.d (.int .i64 (0 : Int))), (.d (.str (ByteArray.mk (Array.mk [])))), (.d (.int .i64 (0 : Int))), .nils, (.d (.int .i64 (0 : Int))), (.d (.str (ByteArray.mk (Array.mk [])))), (.d (.int .i64 (0 : Int))), .nils, (.d (.str (ByteArray.mk (Array.mk [])))), .nils, .nils]) := by kernel_rfl
@[go_sem] theorem q_zeroOf_49 : zeroOf Tryz.prog 49 = (some [(.d (.bool false)), (.d (.str (ByteArray.mk (Array.mk [])))), .nils]) := by kernel_rfl
@[go_sem] theorem q_zeroOf_61 : zeroOf Tryz.prog 61 = (some [(.d (.int .i64 (0 : Int))), (.d (.str (ByteArray.mk (Array.mk [])))), .nils, .nils, .nils, .nils, (.d (.int .i64 (0 : Int))), .nils, (.d (.int .i64 (0 : Int))), (.d (.int .i64 (0 : Int))), (.d (.str (ByteArray.mk (Array.mk [])))), (.d (.int .i64 (0 : Int))), .nils, (.d (.int .i64 (0 : Int))), (.d (.str (ByteArray.mk (Array.mk [])))), (.d (.int .i64 (0 : Int))), .nils, (.d (.str (ByteArray.mk (Array.mk [])))), .nils, .nils]) := by kernel_rfl
@[go_sem] theorem q_zeroOf_64 : zeroOf Tryz.prog 64 = (some [.nils]) := by kernel_rfl
@[go_sem] theorem q_zeroOf_93 : zeroOf Tryz.prog 93 = (some [(.d (.raw .nilIface))]) := by kernel_rfl
@[go_sem] theorem q_zeroOf_98 : zeroOf Tryz.prog 98 = (some [(.d (.str (ByteArray.mk (Array.mk [])))), .nils]) := by kernel_rfl
def pl3 : List (Nat × Plan) := []
def kp3 : List (Nat × List Nat) := [(0, [0]), (1, [0]), (2, []), (3, [0]), (4, [0, 3, 4]), (5, [3, 4, 5, 6])]
noncomputable def s3 : SCode := toS (planAt pl3) (keepAt kp3) (Tryz.f3.body.getD .skip)
def pl4 : List (Nat × Plan) := []
def kp4 : List (Nat × List Nat) := [(0, [0]), (1, [0]), (2, []), (3, [0]), (4, [0, 3, 4]), (5, [0, 3, 4, 5, 6]), (6, [0, 3, 4, 5, 6, 7, 8]), (7, [0, 3, 4, 5, 6, 7, 8, 9, 10]), (8, [0, 3, 4, 5, 6, 7, 8, 9, 10, 11, 12]), (9, [3, 4, 5, 6, 7, 8, 9, 10, 11, 12, 13, 14])]
noncomputable def s4 : SCode := toS (planAt pl4) (keepAt kp4) (Tryz.f4.body.getD .skip)
theorem fn4 : FnIs Tryz.prog 4 78 [.tmp 2] s4 := FnIs.mk' (planAt pl4) (keepAt kp4) (by kernel_rfl)
def pl5 : List (Nat × Plan) := []
def kp5 : List (Nat × List Nat) := [(0, []), (1, []), (2, [1, 2])]
noncomputable def s5 : SCode := toS (planAt pl5) (keepAt kp5) (Tryz.f5.body.getD .skip)
theorem fn5 : FnIs Tryz.prog 5 42 [.tmp 0] s5 := FnIs.mk' (planAt pl5) (keepAt kp5) (by kernel_rfl)
def pl6 : List (Nat × Plan) := []
def kp6 : List (Nat × List Nat) := [(0, [0]), (1, [0])]
noncomputable def s6 : SCode := toS (planAt pl6) (keepAt kp6) (Tryz.f6.body.getD .skip)
theorem fn6 : FnIs Tryz.prog 6 8 [.tmp 2, .tmp 3] s6 := FnIs.mk' (planAt pl6) (keepAt kp6) (by kernel_rfl)
def pl7 : List (Nat × Plan) := [(9, (.fl 0 (.fl 1 (.fl 2 (.fl 3 (.fl 4 (.fl 5 .done)))))))]
def kp7 : List (Nat × List Nat) := [(0, [0]), (1, [0]), (2, [4]), (3, [4, 5]), (4, [4, 5]), (5, [4, 5]), (6, [4, 5]), (7, [4, 5]), (8, [4, 5]), (9, [4]), (10, [5])]
noncomputable def s7 : SCode := toS (planAt pl7) (keepAt kp7) (Tryz.f7.body.getD .skip)
def pl8 : List (Nat × Plan) := [(6, (.fl 0 (.fl 1 (.fl 2 (.fl 3 (.fl 4 (.fl 5 (.fl 6 (.fl 7 (.eff 8 [] (.fl 9 .done)))))))))))]
def kp8 : List (Nat × List Nat) := [(0, [0, 1]), (1, [0, 1]), (2, []), (3, [0, 1]), (4, [0, 1, 12, 13]), (5, [0, 1, 12, 13]), (6, [0, 1, 5, 12, 13]), (7, []), (8, [0, 1, 12, 13]), (9, [])]
noncomputable def s8 : SCode := toS (planAt pl8) (keepAt kp8) (Tryz.f8.body.getD .skip)
def pl9 : List (Nat × Plan) := []
def kp9 : List (Nat × List Nat) := [(0, [0]), (1, [0]), (2, []), (3, [0]), (4, [0, 3]), (5, [0, 25, 26, 27]), (6, [0, 25, 26, 27]), (7, [0, 4, 5, 25, 26, 27]), (8, [4]), (9, [0, 25, 26, 27]), (10, [])]
noncomputable def s9 : SCode := toS (planAt pl9) (keepAt kp9) (Tryz.f9.body.getD .skip)
theorem fn9 : FnIs Tryz.prog 9 38 [.tmp 2] s9 := FnIs.mk' (planAt pl9) (keepAt kp9) (by kernel_rfl)
def pl10 : List (Nat × Plan) := []
def kp10 : List (Nat × List Nat) := [(0, [0]), (1, [0, 2])]
noncomputable def s10 : SCode := toS (planAt pl10) (keepAt kp10) (Tryz.f10.body.getD .skip)
theorem fn10 : FnIs Tryz.prog 10 8 [.cell 2 35, .tmp 3] s10 := FnIs.mk' (planAt pl10) (keepAt kp10) (by kernel_rfl)
def pl11 : List (Nat × Plan) := [(4, (.fl 1 (.fl 2 (.fl 3 (.fl 4 (.eff 0 [4] (.eff 5 [4] (.fl 6 .done))))))))]
def kp11 : List (Nat × List Nat) := [(0, [0]), (1, [0, 2]), (2, [2, 4]), (3, [2, 4, 5]), (4, [2, 4]), (5, [2, 5])]
noncomputable def s11 : SCode := toS (planAt pl11) (keepAt kp11) (Tryz.f11.body.getD .skip)
theorem fn11 : FnIs Tryz.prog 11 19 [.cell 2 35, .tmp 3] s11 := FnIs.mk' (planAt pl11) (keepAt kp11) (by kernel_rfl)
def pl12 : List (Nat × Plan) := []
def kp12 : List (Nat × List Nat) := [(0, [0]), (1, [0, 2])]
noncomputable def s12 : SCode := toS (planAt pl12) (keepAt kp12) (Tryz.f12.body.getD .skip)
theorem fn12 : FnIs Tryz.prog 12 8 [.cell 2 42, .tmp 3] s12 := FnIs.mk' (planAt pl12) (keepAt kp12) (by kernel_rfl)
def pl13 : List (Nat × Plan) := [(4, (.fl 1 (.fl 2 (.fl 3 (.fl 4 (.eff 0 [4] (.eff 5 [4] (.fl 6 .done))))))))]
def kp13 : List (Nat × List Nat) := [(0, [0]), (1, [0, 2]), (2, [2, 4]), (3, [2, 4, 5]), (4, [2, 4]), (5, [2, 5])]
noncomputable def s13 : SCode := toS (planAt pl13) (keepAt kp13) (Tryz.f13.body.getD .skip)
theorem fn13 : FnIs Tryz.prog 13 19 [.cell 2 42, .tmp 3] s13 := FnIs.mk' (planAt pl13) (keepAt kp13) (by kernel_rfl)
def pl14 : List (Nat × Plan) := []
def kp14 : List (Nat × List Nat) := [(0, [0]), (1, [0, 2])]
noncomputable def s14 : SCode := toS (planAt pl14) (keepAt kp14) (Tryz.f14.body.getD .skip)
theorem fn14 : FnIs Tryz.prog 14 8 [.cell 2 49, .tmp 3] s14 := FnIs.mk' (planAt pl14) (keepAt kp14) (by kernel_rfl)
def pl15 : List (Nat × Plan) := [(4, (.fl 1 (.fl 2 (.fl 3 (.fl 4 (.eff 0 [4] (.eff 5 [4] (.fl 6 .done))))))))]
def kp15 : List (Nat × List Nat) := [(0, [0]), (1, [0, 2]), (2, [2, 4]), (3, [2, 4, 5]), (4, [2, 4]), (5, [2, 5])]
noncomputable def s15 : SCode := toS (planAt pl15) (keepAt kp15) (Tryz.f15.body.getD .skip)
theorem fn15 : FnIs Tryz.prog 15 19 [.cell 2 49, .tmp 3] s15 := FnIs.mk' (planAt pl15) (keepAt kp15) (by kernel_rfl)
def pl16 : List (Nat × Plan) := []
def kp16 : List (Nat × List Nat) := [(0, [0, 1]), (1, [2, 3])]
noncomputable def s16 : SCode := toS (planAt pl16) (keepAt kp16) (Tryz.f16.body.getD .skip)
theorem fn16 : FnIs Tryz.prog 16 31 [.tmp 4] s16 := FnIs.mk' (planAt pl16) (keepAt kp16) (by kernel_rfl)
def pl17 : List (Nat × Plan) := [(6, (.fl 0 (.fl 1 (.fl 2 (.fl 3 (.fl 4 (.fl 5 (.fl 6 (.fl 7 (.fl 8 (.fl 9 (.eff 10 [] (.fl 11 .done)))))))))))))]
def kp17 : List (Nat × List Nat) := [(0, [0, 1]), (1, [2, 3]), (2, []), (3, [2, 3]), (4, [2, 3, 53, 54]), (5, [2, 3, 53, 54]), (6, [2, 3, 5, 53, 54]), (7, []), (8, [2, 3, 53, 54]), (9, [])]
noncomputable def s17 : SCode := toS (planAt pl17) (keepAt kp17) (Tryz.f17.body.getD .skip)
theorem fn17 : FnIs Tryz.prog 17 70 [.tmp 4] s17 := FnIs.mk' (planAt pl17) (keepAt kp17) (by kernel_rfl)
def pl18 : List (Nat × Plan) := []
def kp18 : List (Nat × List Nat) := [(0, [0, 1]), (1, [2, 3])]
noncomputable def s18 : SCode := toS (planAt pl18) (keepAt kp18) (Tryz.f18.body.getD .skip)
theorem fn18 : FnIs Tryz.prog 18 24 [.tmp 4] s18 := FnIs.mk' (planAt pl18) (keepAt kp18) (by kernel_rfl)
def pl19 : List (Nat × Plan) := [(3, (.fl 0 (.fl 1 (.eff 2 [1] (.eff 3 [] .done)))))]
def kp19 : List (Nat × List Nat) := [(0, [0, 1]), (1, [0, 1, 4, 5]), (2, [1, 4, 5, 6]), (3, [4, 5]), (4, [1, 4, 5, 6]), (5, [1, 4, 5, 6]), (6, [1, 4, 5, 6, 7]), (7, [4, 5, 6, 7]), (8, [4, 5, 7]), (9, [4, 5])]
noncomputable def s19 : SCode := toS (planAt pl19) (keepAt kp19) (Tryz.f19.body.getD .skip)
theorem fn19 : FnIs Tryz.prog 19 35 [.cell 4 23, .cell 5 25] s19 := FnIs.mk' (planAt pl19) (keepAt kp19) (by kernel_rfl)
def pl20 : List (Nat × Plan) := [(2, (.fl 0 (.fl 1 (.fl 2 (.fl 3 (.fl 4 (.fl 5 (.fl 6 (.fl 7 (.fl 8 (.fl 9 .done)))))))))))]
def kp20 : List (Nat × List Nat) := [(0, [0]), (1, [0]), (2, [0, 3]), (3, [0, 3]), (4, [0, 3]), (5, [0, 3]), (6, [0, 3]), (7, [3])]
noncomputable def s20 : SCode := toS (planAt pl20) (keepAt kp20) (Tryz.f20.body.getD .skip)
theorem fn20 : FnIs Tryz.prog 20 28 [.tmp 2] s20 := FnIs.mk' (planAt pl20) (keepAt kp20) (by kernel_rfl)
def pl21 : List (Nat × Plan) := []
def kp21 : List (Nat × List Nat) := [(0, [1])]
noncomputable def s21 : SCode := toS (planAt pl21) (keepAt kp21) (Tryz.f21.body.getD .skip)
theorem fn21 : FnIs Tryz.prog 21 7 [] s21 := FnIs.mk' (planAt pl21) (keepAt kp21) (by kernel_rfl)
def pl22 : List (Nat × Plan) := [(2, (.fl 0 (.fl 2 (.fl 3 (.both (.eff 1 [2, 3] (.both (.eff 4 [0, 2] (.both (.eff 5 [] (.both (.eff 6 [] (.eff 7 [0, 2, 3] (.eff 8 [] .done))) (.eff 7 [0, 2, 3] (.eff 6 [] (.eff 8 [] .done))))) (.eff 7 [0, 2, 3] (.eff 5 [] (.eff 6 [] (.eff 8 [] .done)))))) (.eff 7 [0, 2, 3] (.eff 4 [0, 2] (.eff 5 [] (.eff 6 [] (.eff 8 [] .done))))))) (.both (.eff 4 [0, 2] (.both (.eff 1 [2, 3] (.both (.eff 5 [] (.both (.eff 6 [] (.eff 7 [0, 2, 3] (.eff 8 [] .done))) (.eff 7 [0, 2, 3] (.eff 6 [] (.eff 8 [] .done))))) (.eff 7 [0, 2, 3] (.eff 5 [] (.eff 6 [] (.eff 8 [] .done)))))) (.eff 7 [0, 2, 3] (.eff 1 [2, 3] (.eff 5 [] (.eff 6 [] (.eff 8 [] .done))))))) (.eff 7 [0, 2, 3] (.both (.eff 1 [2, 3] (.eff 4 [0, 2] (.eff 5 [] (.eff 6 [] (.eff 8 [] .done))))) (.eff 4 [0, 2] (.eff 1 [2, 3] (.eff 5 [] (.eff 6 [] (.eff 8 [] .done))))))))))))), (4, (.fl 0 (.fl 1 (.fl 2 (.eff 3 [1] (.eff 4 [1] (.eff 5 [] (.fl 6 (.eff 7 [] .done))))))))), (6, (.fl 0 (.fl 1 (.fl 2 (.eff 3 [1] (.eff 4 [1] (.eff 5 [] (.fl 6 (.eff 7 [] .done))))))))), (9, (.fl 0 (.fl 2 (.both (.eff 1 [2] (.eff 3 [0, 2] (.eff 4 [] (.eff 5 [] (.eff 6 [] .done))))) (.eff 3 [0, 2] (.eff 1 [2] (.eff 4 [] (.eff 5 [] (.eff 6 [] .done))))))))), (11, (.fl 0 (.fl 2 (.fl 3 (.both (.eff 1 [2, 3] (.both (.eff 4 [0, 2] (.both (.eff 5 [] (.both (.eff 6 [] (.eff 7 [0, 2, 3] (.eff 8 [] .done))) (.eff 7 [0, 2, 3] (.eff 6 [] (.eff 8 [] .done))))) (.eff 7 [0, 2, 3] (.eff 5 [] (.eff 6 [] (.eff 8 [] .done)))))) (.eff 7 [0, 2, 3] (.eff 4 [0, 2] (.eff 5 [] (.eff 6 [] (.eff 8 [] .done))))))) (.both (.eff 4 [0, 2] (.both (.eff 1 [2, 3] (.both (.eff 5 [] (.both (.eff 6 [] (.eff 7 [0, 2, 3] (.eff 8 [] .done))) (.eff 7 [0, 2, 3] (.eff 6 [] (.eff 8 [] .done))))) (.eff 7 [0, 2, 3] (.eff 5 [] (.eff 6 [] (.eff 8 [] .done)))))) (.eff 7 [0, 2, 3] (.eff 1 [2, 3] (.eff 5 [] (.eff 6 [] (.eff 8 [] .done))))))) (.eff 7 [0, 2, 3] (.both (.eff 1 [2, 3] (.eff 4 [0, 2] (.eff 5 [] (.eff 6 [] (.eff 8 [] .done))))) (.eff 4 [0, 2] (.eff 1 [2, 3] (.eff 5 [] (.eff 6 [] (.eff 8 [] .done))))))))))))), (15, (.fl 0 (.fl 2 (.both (.eff 1 [2] (.both (.eff 3 [0, 2] (.both (.eff 4 [] (.both (.eff 5 [0, 2] (.both (.eff 6 [] (.eff 7 [0, 2] (.eff 8 [] .done))) (.eff 7 [0, 2] (.eff 6 [] (.eff 8 [] .done))))) (.eff 7 [0, 2] (.eff 5 [0, 2] (.eff 6 [] (.eff 8 [] .done)))))) (.both (.eff 5 [0, 2] (.both (.eff 4 [] (.both (.eff 6 [] (.eff 7 [0, 2] (.eff 8 [] .done))) (.eff 7 [0, 2] (.eff 6 [] (.eff 8 [] .done))))) (.eff 7 [0, 2] (.eff 4 [] (.eff 6 [] (.eff 8 [] .done)))))) (.eff 7 [0, 2] (.both (.eff 4 [] (.eff 5 [0, 2] (.eff 6 [] (.eff 8 [] .done)))) (.eff 5 [0, 2] (.eff 4 [] (.eff 6 [] (.eff 8 [] .done))))))))) (.both (.eff 5 [0, 2] (.both (.eff 3 [0, 2] (.both (.eff 4 [] (.both (.eff 6 [] (.eff 7 [0, 2] (.eff 8 [] .done))) (.eff 7 [0, 2] (.eff 6 [] (.eff 8 [] .done))))) (.eff 7 [0, 2] (.eff 4 [] (.eff 6 [] (.eff 8 [] .done)))))) (.eff 7 [0, 2] (.eff 3 [0, 2] (.eff 4 [] (.eff 6 [] (.eff 8 [] .done))))))) (.eff 7 [0, 2] (.both (.eff 3 [0, 2] (.both (.eff 4 [] (.eff 5 [0, 2] (.eff 6 [] (.eff 8 [] .done)))) (.eff 5 [0, 2] (.eff 4 [] (.eff 6 [] (.eff 8 [] .done)))))) (.eff 5 [0, 2] (.eff 3 [0, 2] (.eff 4 [] (.eff 6 [] (.eff 8 [] .done)))))))))) (.both (.eff 3 [0, 2] (.both (.eff 1 [2] (.both (.eff 4 [] (.both (.eff 5 [0, 2] (.both (.eff 6 [] (.eff 7 [0, 2] (.eff 8 [] .done))) (.eff 7 [0, 2] (.eff 6 [] (.eff 8 [] .done))))) (.eff 7 [0, 2] (.eff 5 [0, 2] (.eff 6 [] (.eff 8 [] .done)))))) (.both (.eff 5 [0, 2] (.both (.eff 4 [] (.both (.eff 6 [] (.eff 7 [0, 2] (.eff 8 [] .done))) (.eff 7 [0, 2] (.eff 6 [] (.eff 8 [] .done))))) (.eff 7 [0, 2] (.eff 4 [] (.eff 6 [] (.eff 8 [] .done)))))) (.eff 7 [0, 2] (.both (.eff 4 [] (.eff 5 [0, 2] (.eff 6 [] (.eff 8 [] .done)))) (.eff 5 [0, 2] (.eff 4 [] (.eff 6 [] (.eff 8 [] .done))))))))) (.both (.eff 5 [0, 2] (.both (.eff 1 [2] (.both (.eff 4 [] (.both (.eff 6 [] (.eff 7 [0, 2] (.eff 8 [] .done))) (.eff 7 [0, 2] (.eff 6 [] (.eff 8 [] .done))))) (.eff 7 [0, 2] (.eff 4 [] (.eff 6 [] (.eff 8 [] .done)))))) (.eff 7 [0, 2] (.eff 1 [2] (.eff 4 [] (.eff 6 [] (.eff 8 [] .done))))))) (.eff 7 [0, 2] (.both (.eff 1 [2] (.both (.eff 4 [] (.eff 5 [0, 2] (.eff 6 [] (.eff 8 [] .done)))) (.eff 5 [0, 2] (.eff 4 [] (.eff 6 [] (.eff 8 [] .done)))))) (.eff 5 [0, 2] (.eff 1 [2] (.eff 4 [] (.eff 6 [] (.eff 8 [] .done)))))))))) (.both (.eff 5 [0, 2] (.both (.eff 1 [2] (.both (.eff 3 [0, 2] (.both (.eff 4 [] (.both (.eff 6 [] (.eff 7 [0, 2] (.eff 8 [] .done))) (.eff 7 [0, 2] (.eff 6 [] (.eff 8 [] .done))))) (.eff 7 [0, 2] (.eff 4 [] (.eff 6 [] (.eff 8 [] .done)))))) (.eff 7 [0, 2] (.eff 3 [0, 2] (.eff 4 [] (.eff 6 [] (.eff 8 [] .done))))))) (.both (.eff 3 [0, 2] (.both (.eff 1 [2] (.both (.eff 4 [] (.both (.eff 6 [] (.eff 7 [0, 2] (.eff 8 [] .done))) (.eff 7 [0, 2] (.eff 6 [] (.eff 8 [] .done))))) (.eff 7 [0, 2] (.eff 4 [] (.eff 6 [] (.eff 8 [] .done)))))) (.eff 7 [0, 2] (.eff 1 [2] (.eff 4 [] (.eff 6 [] (.eff 8 [] .done))))))) (.eff 7 [0, 2] (.both (.eff 1 [2] (.eff 3 [0, 2] (.eff 4 [] (.eff 6 [] (.eff 8 [] .done))))) (.eff 3 [0, 2] (.eff 1 [2] (.eff 4 [] (.eff 6 [] (.eff 8 [] .done)))))))))) (.eff 7 [0, 2] (.both (.eff 1 [2] (.both (.eff 3 [0, 2] (.both (.eff 4 [] (.eff 5 [0, 2] (.eff 6 [] (.eff 8 [] .done)))) (.eff 5 [0, 2] (.eff 4 [] (.eff 6 [] (.eff 8 [] .done)))))) (.eff 5 [0, 2] (.eff 3 [0, 2] (.eff 4 [] (.eff 6 [] (.eff 8 [] .done))))))) (.both (.eff 3 [0, 2] (.both (.eff 1 [2] (.both (.eff 4 [] (.eff 5 [0, 2] (.eff 6 [] (.eff 8 [] .done)))) (.eff 5 [0, 2] (.eff 4 [] (.eff 6 [] (.eff 8 [] .done)))))) (.eff 5 [0, 2] (.eff 1 [2] (.eff 4 [] (.eff 6 [] (.eff 8 [] .done))))))) (.eff 5 [0, 2] (.both (.eff 1 [2] (.eff 3 [0, 2] (.eff 4 [] (.eff 6 [] (.eff 8 [] .done))))) (.eff 3 [0, 2] (.eff 1 [2] (.eff 4 [] (.eff 6 [] (.eff 8 [] .done))))))))))))))))]
def kp22 : List (Nat × List Nat) := [(0, [0]), (1, [1, 2]), (2, [1, 2]), (3, [1, 2, 3]), (4, [1, 2, 3]), (5, [1, 2, 3]), (6, [1, 2, 3]), (7, [2, 3]), (8, [1, 2]), (9, [1, 2]), (10, [1, 2]), (11, [1, 2]), (12, [1, 2, 4]), (13, [1, 2, 4]), (14, [2, 4]), (15, [1, 2]), (16, [1, 2, 5]), (17, [1, 2, 5]), (18, [2, 5])]
noncomputable def s22 : SCode := toS (planAt pl22) (keepAt kp22) (Tryz.f22.body.getD .skip)
theorem fn22 : FnIs Tryz.prog 22 73 [.cell 2 61] s22 := FnIs.mk' (planAt pl22) (keepAt kp22) (by kernel_rfl)
def pl23 : List (Nat × Plan) := []
def kp23 : List (Nat × List Nat) := [(0, [0, 1]), (1, [0])]
noncomputable def s23 : SCode := toS (planAt pl23) (keepAt kp23) (Tryz.f23.body.getD .skip)
theorem fn23 : FnIs Tryz.prog 23 11 [] s23 := FnIs.mk' (planAt pl23) (keepAt kp23) (by kernel_rfl)
def pl24 : List (Nat × Plan) := []
def kp24 : List (Nat × List Nat) := [(0, [0]), (1, [0]), (2, [3, 4])]
noncomputable def s24 : SCode := toS (planAt pl24) (keepAt kp24) (Tryz.f24.body.getD .skip)
theorem fn24 : FnIs Tryz.prog 24 14 [.tmp 2] s24 := FnIs.mk' (planAt pl24) (keepAt kp24) (by kernel_rfl)
def pl25 : List (Nat × Plan) := [(1, (.fl 0 (.fl 1 (.fl 2 (.fl 3 (.fl 4 (.fl 5 (.fl 6 (.fl 7 (.fl 8 (.fl 9 (.fl 10 (.fl 11 (.fl 12 (.fl 13 (.fl 14 (.fl 15 (.fl 16 (.fl 17 .done)))))))))))))))))))]
def kp25 : List (Nat × List Nat) := [(0, [0]), (1, [0])]
noncomputable def s25 : SCode := toS (planAt pl25) (keepAt kp25) (Tryz.f25.body.getD .skip)
theorem fn25 : FnIs Tryz.prog 25 20 [.tmp 2] s25 := FnIs.mk' (planAt pl25) (keepAt kp25) (by kernel_rfl)
def pl26 : List (Nat × Plan) := []
def kp26 : List (Nat × List Nat) := [(0, [0, 1]), (1, [0, 1])]
noncomputable def s26 : SCode := toS (planAt pl26) (keepAt kp26) (Tryz.f26.body.getD .skip)
theorem fn26 : FnIs Tryz.prog 26 13 [] s26 := FnIs.mk' (planAt pl26) (keepAt kp26) (by kernel_rfl)
def pl28 : List (Nat × Plan) := []
def kp28 : List (Nat × List Nat) := [(0, [0, 1]), (1, [0])]
noncomputable def s28 : SCode := toS (planAt pl28) (keepAt kp28) (Tryz.f28.body.getD .skip)
theorem fn28 : FnIs Tryz.prog 28 17 [] s28 := FnIs.mk' (planAt pl28) (keepAt kp28) (by kernel_rfl)
def pl29 : List (Nat × Plan) := [(1, (.fl 0 (.fl 1 (.fl 2 (.fl 3 (.fl 4 (.fl 5 (.fl 6 (.fl 7 (.fl 8 (.fl 9 (.fl 10 (.fl 11 (.fl 12 (.fl 13 (.fl 14 (.fl 15 (.fl 16 .done))))))))))))))))))]
def kp29 : List (Nat × List Nat) := [(0, [0]), (1, [0]), (2, [0]), (3, [0])]
noncomputable def s29 : SCode := toS (planAt pl29) (keepAt kp29) (Tryz.f29.body.getD .skip)
theorem fn29 : FnIs Tryz.prog 29 27 [.tmp 2] s29 := FnIs.mk' (planAt pl29) (keepAt kp29) (by kernel_rfl)
def pl31 : List (Nat × Plan) := [(3, (.fl 0 (.fl 1 (.eff 2 [1] (.eff 3 [] .done)))))]
def kp31 : List (Nat × List Nat) := [(0, [0, 1]), (1, [0, 1, 4, 5]), (2, [1, 4, 5, 6]), (3, [4, 5]), (4, [1, 4, 5, 6]), (5, [1, 4, 5, 6]), (6, [1, 4, 5, 6, 7]), (7, [4, 5, 6, 7]), (8, [4, 5, 7]), (9, [4, 5])]
noncomputable def s31 : SCode := toS (planAt pl31) (keepAt kp31) (Tryz.f31.body.getD .skip)
theorem fn31 : FnIs Tryz.prog 31 35 [.cell 4 35, .cell 5 25] s31 := FnIs.mk' (planAt pl31) (keepAt kp31) (by kernel_rfl)
def pl32 : List (Nat × Plan) := []
def kp32 : List (Nat × List Nat) := [(0, [0]), (1, [0, 2])]
noncomputable def s32 : SCode := toS (planAt pl32) (keepAt kp32) (Tryz.f32.body.getD .skip)
theorem fn32 : FnIs Tryz.prog 32 5 [.cell 2 35] s32 := FnIs.mk' (planAt pl32) (keepAt kp32) (by kernel_rfl)
def pl33 : List (Nat × Plan) := []
def kp33 : List (Nat × List Nat) := [(0, [0, 1]), (1, [2, 3, 4]), (2, [2, 3, 4]), (3, [2, 3, 4, 5]), (4, [2, 3, 4, 5, 13]), (5, [2, 4, 5]), (6, [4, 5]), (7, [2, 3, 4, 5, 13]), (8, [2, 4, 5]), (9, [4, 5]), (10, [2, 3, 4]), (11, [2, 3, 4, 6])]
noncomputable def s33 : SCode := toS (planAt pl33) (keepAt kp33) (Tryz.f33.body.getD .skip)
theorem fn33 : FnIs Tryz.prog 33 45 [.cell 4 35] s33 := FnIs.mk' (planAt pl33) (keepAt kp33) (by kernel_rfl)
def pl34 : List (Nat × Plan) := [(2, (.fl 0 (.eff 1 [] (.fl 2 (.fl 3 (.fl 4 (.fl 5 (.fl 6 (.fl 7 (.fl 8 (.fl 9 (.fl 10 (.fl 11 (.fl 12 (.fl 13 (.fl 14 (.fl 15 (.fl 16 .done)))))))))))))))))), (4, (.fl 0 (.fl 1 (.fl 2 (.fl 3 (.fl 4 (.fl 5 (.fl 6 (.fl 7 (.fl 8 (.fl 9 (.fl 10 (.fl 11 (.eff 12 [] (.eff 13 [] .done))))))))))))))), (5, (.fl 0 (.eff 1 [] (.fl 2 (.fl 3 (.fl 4 (.fl 5 (.fl 6 (.fl 7 (.fl 8 (.fl 9 (.fl 10 (.fl 11 (.fl 12 (.fl 13 (.fl 14 (.fl 15 (.fl 16 .done)))))))))))))))))), (7, (.fl 0 (.fl 1 (.fl 2 (.fl 3 (.fl 4 (.fl 5 (.fl 6 (.fl 7 (.fl 8 (.fl 9 (.fl 10 (.fl 11 (.eff 12 [] (.eff 13 [] .done))))))))))))))), (10, (.fl 0 (.fl 1 (.fl 2 (.fl 3 (.fl 4 (.eff 5 [1] (.eff 6 [1] (.eff 7 [] (.fl 8 (.eff 9 [] .done)))))))))))]
def kp34 : List (Nat × List Nat) := [(0, [0, 1]), (1, [0, 1, 4]), (2, [0, 1, 4]), (3, [0, 4]), (4, [0, 4]), (5, [0, 1, 4]), (6, [0, 4]), (7, [0, 4]), (8, [0, 1, 4]), (9, [0, 1, 4, 5]), (10, [0, 1, 4, 5]), (11, [4, 5])]
noncomputable def s34 : SCode := toS (planAt pl34) (keepAt kp34) (Tryz.f34.body.getD .skip)
theorem fn34 : FnIs Tryz.prog 34 108 [.cell 4 35] s34 := FnIs.mk' (planAt pl34) (keepAt kp34) (by kernel_rfl)
def pl35 : List (Nat × Plan) := [(3, (.fl 0 (.fl 1 (.eff 2 [1] (.eff 3 [] .done)))))]
def kp35 : List (Nat × List Nat) := [(0, [0, 1]), (1, [0, 1, 4, 5]), (2, [1, 4, 5, 6]), (3, [4, 5]), (4, [1, 4, 5, 6]), (5, [1, 4, 5, 6]), (6, [1, 4, 5, 6, 7]), (7, [4, 5, 6, 7]), (8, [4, 5, 7]), (9, [4, 5])]
noncomputable def s35 : SCode := toS (planAt pl35) (keepAt kp35) (Tryz.f35.body.getD .skip)
theorem fn35 : FnIs Tryz.prog 35 35 [.cell 4 42, .cell 5 25] s35 := FnIs.mk' (planAt pl35) (keepAt kp35) (by kernel_rfl)
def pl36 : List (Nat × Plan) := []
def kp36 : List (Nat × List Nat) := [(0, [0]), (1, [0, 2])]
noncomputable def s36 : SCode := toS (planAt pl36) (keepAt kp36) (Tryz.f36.body.getD .skip)
theorem fn36 : FnIs Tryz.prog 36 5 [.cell 2 42] s36 := FnIs.mk' (planAt pl36) (keepAt kp36) (by kernel_rfl)
def pl37 : List (Nat × Plan) := []
def kp37 : List (Nat × List Nat) := [(0, [0, 1]), (1, [2, 3, 4])]
noncomputable def s37 : SCode := toS (planAt pl37) (keepAt kp37) (Tryz.f37.body.getD .skip)
theorem fn37 : FnIs Tryz.prog 37 8 [.cell 4 42] s37 := FnIs.mk' (planAt pl37) (keepAt kp37) (by kernel_rfl)
def pl38 : List (Nat × Plan) := []
def kp38 : List (Nat × List Nat) := [(0, [0, 1]), (1, [0, 1, 4]), (2, [0, 1, 4, 5]), (3, [0, 1, 4, 5]), (4, [0, 1, 4, 5, 6]), (5, [0, 1, 4, 5, 6]), (6, [0, 1, 4, 5, 6]), (7, [0, 1, 4, 5, 6]), (8, [0, 1, 4, 5, 6]), (9, [0, 1, 4, 5]), (10, [4, 5]), (11, [4, 5]), (12, [4, 5])]
noncomputable def s38 : SCode := toS (planAt pl38) (keepAt kp38) (Tryz.f38.body.getD .skip)
theorem fn38 : FnIs Tryz.prog 38 50 [.cell 4 42] s38 := FnIs.mk' (planAt pl38) (keepAt kp38) (by kernel_rfl)
def pl39 : List (Nat × Plan) := [(3, (.fl 0 (.fl 1 (.eff 2 [1] (.eff 3 [] .done)))))]
def kp39 : List (Nat × List Nat) := [(0, [0, 1]), (1, [0, 1, 4, 5]), (2, [1, 4, 5, 6]), (3, [4, 5]), (4, [1, 4, 5, 6]), (5, [1, 4, 5, 6]), (6, [1, 4, 5, 6, 7]), (7, [4, 5, 6, 7]), (8, [4, 5, 7]), (9, [4, 5])]
noncomputable def s39 : SCode := toS (planAt pl39) (keepAt kp39) (Tryz.f39.body.getD .skip)
theorem fn39 : FnIs Tryz.prog 39 35 [.cell 4 49, .cell 5 25] s39 := FnIs.mk' (planAt pl39) (keepAt kp39) (by kernel_rfl)
def pl40 : List (Nat × Plan) := []
def kp40 : List (Nat × List Nat) := [(0, [0]), (1, [0, 2])]
noncomputable def s40 : SCode := toS (planAt pl40) (keepAt kp40) (Tryz.f40.body.getD .skip)
theorem fn40 : FnIs Tryz.prog 40 5 [.cell 2 49] s40 := FnIs.mk' (planAt pl40) (keepAt kp40) (by kernel_rfl)
def pl41 : List (Nat × Plan) := []
def kp41 : List (Nat × List Nat) := [(0, [0, 1]), (1, [2, 3, 4]), (2, [2, 3, 4]), (3, [2, 4]), (4, [2, 3, 4]), (5, [4]), (6, [2, 3, 4]), (7, [2, 3, 4, 5])]
noncomputable def s41 : SCode := toS (planAt pl41) (keepAt kp41) (Tryz.f41.body.getD .skip)
theorem fn41 : FnIs Tryz.prog 41 27 [.cell 4 49] s41 := FnIs.mk' (planAt pl41) (keepAt kp41) (by kernel_rfl)
def pl42 : List (Nat × Plan) := [(2, (.fl 0 (.eff 1 [] (.fl 2 (.fl 3 (.fl 4 (.fl 5 (.fl 6 (.fl 7 (.fl 8 (.fl 9 (.fl 10 (.fl 11 (.fl 12 (.fl 13 (.fl 14 (.fl 15 (.fl 16 .done)))))))))))))))))), (4, (.fl 0 (.fl 1 (.fl 2 (.fl 3 (.fl 4 (.fl 5 (.fl 6 (.fl 7 (.fl 8 (.fl 9 (.fl 10 (.fl 11 (.eff 12 [] (.eff 13 [] .done))))))))))))))), (9, (.fl 0 (.fl 1 (.fl 2 (.fl 3 (.fl 4 (.eff 5 [1] (.eff 6 [1] (.eff 7 [] (.fl 8 (.eff 9 [] .done)))))))))))]
def kp42 : List (Nat × List Nat) := [(0, [0, 1]), (1, [0, 1, 4]), (2, [0, 1, 4]), (3, [0, 4]), (4, [0, 4]), (5, [0, 1, 4]), (6, [4]), (7, [0, 1, 4]), (8, [0, 1, 4, 5]), (9, [0, 1, 4, 5]), (10, [4, 5])]
noncomputable def s42 : SCode := toS (planAt pl42) (keepAt kp42) (Tryz.f42.body.getD .skip)
theorem fn42 : FnIs Tryz.prog 42 74 [.cell 4 49] s42 := FnIs.mk' (planAt pl42) (keepAt kp42) (by kernel_rfl)
def pl43 : List (Nat × Plan) := [(6, (.fl 0 (.fl 1 (.fl 2 (.fl 3 (.fl 4 (.fl 5 (.fl 6 (.fl 7 (.eff 8 [] (.fl 9 .done)))))))))))]
def kp43 : List (Nat × List Nat) := [(0, [0, 1]), (1, [0, 1]), (2, []), (3, [0, 1]), (4, [0, 1, 12, 13]), (5, [0, 1, 12, 13]), (6, [0, 1, 5, 12, 13]), (7, []), (8, [0, 1, 12, 13]), (9, [])]
noncomputable def s43 : SCode := toS (planAt pl43) (keepAt kp43) (Tryz.f43.body.getD .skip)
theorem fn43 : FnIs Tryz.prog 43 27 [.tmp 4] s43 := FnIs.mk' (planAt pl43) (keepAt kp43) (by kernel_rfl)
def pl44 : List (Nat × Plan) := [(6, (.fl 0 (.fl 1 (.fl 2 (.fl 3 (.fl 4 (.fl 5 (.fl 6 (.fl 7 (.eff 8 [] (.fl 9 .done)))))))))))]
def kp44 : List (Nat × List Nat) := [(0, [0, 1]), (1, [0, 1]), (2, []), (3, [0, 1]), (4, [0, 1, 12, 13]), (5, [0, 1, 12, 13]), (6, [0, 1, 5, 12, 13]), (7, []), (8, [0, 1, 12, 13]), (9, [])]
noncomputable def s44 : SCode := toS (planAt pl44) (keepAt kp44) (Tryz.f44.body.getD .skip)
theorem fn44 : FnIs Tryz.prog 44 27 [.tmp 4] s44 := FnIs.mk' (planAt pl44) (keepAt kp44) (by kernel_rfl)
def pl45 : List (Nat × Plan) := [(2, (.fl 0 (.fl 1 (.fl 2 .done)))), (6, (.fl 0 (.fl 1 (.fl 2 .done))))]
def kp45 : List (Nat × List Nat) := [(0, [0]), (1, [0]), (2, []), (3, [0]), (4, [0, 4]), (5, [4, 5]), (6, []), (7, [4])]
noncomputable def s45 : SCode := toS (planAt pl45) (keepAt kp45) (Tryz.f45.body.getD .skip)
theorem fn45 : FnIs Tryz.prog 45 17 [.tmp 2, .tmp 3] s45 := FnIs.mk' (planAt pl45) (keepAt kp45) (by kernel_rfl)
def pl46 : List (Nat × Plan) := [(3, (.fl 0 (.fl 1 (.fl 2 (.eff 3 [2] (.eff 4 [] .done))))))]
def kp46 : List (Nat × List Nat) := [(0, [0, 1]), (1, [0, 1, 2, 3]), (2, [0, 1, 2]), (3, [0, 1, 2, 4])]
noncomputable def s46 : SCode := toS (planAt pl46) (keepAt kp46) (Tryz.f46.body.getD .skip)
theorem fn46 : FnIs Tryz.prog 46 14 [] s46 := FnIs.mk' (planAt pl46) (keepAt kp46) (by kernel_rfl)
def pl47 : List (Nat × Plan) := []
def kp47 : List (Nat × List Nat) := [(0, [0, 1]), (1, [0, 1]), (2, [0]), (3, []), (4, [])]
noncomputable def s47 : SCode := toS (planAt pl47) (keepAt kp47) (Tryz.f47.body.getD .skip)
theorem fn47 : FnIs Tryz.prog 47 15 [.tmp 4] s47 := FnIs.mk' (planAt pl47) (keepAt kp47) (by kernel_rfl)
def pl48 : List (Nat × Plan) := []
def kp48 : List (Nat × List Nat) := [(0, [0]), (1, [0]), (2, [0, 3]), (3, [0, 3]), (4, [0, 3]), (5, [3])]
noncomputable def s48 : SCode := toS (planAt pl48) (keepAt kp48) (Tryz.f48.body.getD .skip)
theorem fn48 : FnIs Tryz.prog 48 26 [.tmp 2] s48 := FnIs.mk' (planAt pl48) (keepAt kp48) (by kernel_rfl)
def pl49 : List (Nat × Plan) := [(4, (.fl 0 (.fl 1 (.fl 2 (.fl 3 (.fl 4 (.fl 5 (.fl 6 (.fl 7 (.fl 8 (.fl 9 (.fl 10 (.fl 11 (.fl 12 (.fl 13 (.fl 14 .done))))))))))))))))]
def kp49 : List (Nat × List Nat) := [(0, [0, 1]), (1, [0, 1]), (2, []), (3, [0, 1]), (4, [0, 1, 5]), (5, [0, 1, 5]), (6, [0, 1, 5]), (7, [0, 1, 5]), (8, [5]), (9, [0, 1, 5])]
noncomputable def s49 : SCode := toS (planAt pl49) (keepAt kp49) (Tryz.f49.body.getD .skip)
theorem fn49 : FnIs Tryz.prog 49 37 [.tmp 4] s49 := FnIs.mk' (planAt pl49) (keepAt kp49) (by kernel_rfl)
def pl50 : List (Nat × Plan) := []
def kp50 : List (Nat × List Nat) := [(0, [0]), (1, [0]), (2, [0, 3]), (3, [0, 3]), (4, [0, 3]), (5, [3])]
noncomputable def s50 : SCode := toS (planAt pl50) (keepAt kp50) (Tryz.f50.body.getD .skip)
theorem fn50 : FnIs Tryz.prog 50 21 [.tmp 2] s50 := FnIs.mk' (planAt pl50) (keepAt kp50) (by kernel_rfl)
def pl51 : List (Nat × Plan) := []
def kp51 : List (Nat × List Nat) := [(0, [0]), (1, [1, 2]), (2, [1, 2, 3])]
noncomputable def s51 : SCode := toS (planAt pl51) (keepAt kp51) (Tryz.f51.body.getD .skip)
theorem fn51 : FnIs Tryz.prog 51 11 [.cell 2 98] s51 := FnIs.mk' (planAt pl51) (keepAt kp51) (by kernel_rfl)
def pl52 : List (Nat × Plan) := [(4, (.fl 0 (.fl 1 (.fl 2 (.fl 3 (.fl 4 (.fl 5 (.fl 6 (.fl 7 (.fl 8 (.fl 9 (.fl 10 (.fl 11 (.fl 12 (.fl 13 (.fl 14 .done))))))))))))))))]
def kp52 : List (Nat × List Nat) := [(0, [0, 1]), (1, [0, 1]), (2, []), (3, [0, 1]), (4, [0, 1, 5]), (5, [0, 1, 5]), (6, [0, 1, 5]), (7, [0, 1, 5]), (8, [5]), (9, [0, 1, 5])]
noncomputable def s52 : SCode := toS (planAt pl52) (keepAt kp52) (Tryz.f52.body.getD .skip)
theorem fn52 : FnIs Tryz.prog 52 37 [.tmp 4] s52 := FnIs.mk' (planAt pl52) (keepAt kp52) (by kernel_rfl)
def pl53 : List (Nat × Plan) := []
def kp53 : List (Nat × List Nat) := [(0, [0]), (1, [0, 1])]
noncomputable def s53 : SCode := toS (planAt pl53) (keepAt kp53) (Tryz.f53.body.getD .skip)
theorem fn53 : FnIs Tryz.prog 53 4 [.cell 1 49] s53 := FnIs.mk' (planAt pl53) (keepAt kp53) (by kernel_rfl)
def pl54 : List (Nat × Plan) := [(4, (.fl 0 (.fl 1 (.fl 2 (.fl 3 (.fl 4 (.fl 5 (.fl 6 (.fl 7 (.fl 8 (.fl 9 (.fl 10 (.fl 11 (.fl 12 (.fl 13 (.fl 14 .done))))))))))))))))]
def kp54 : List (Nat × List Nat) := [(0, [0, 1]), (1, [0, 1]), (2, []), (3, [0, 1]), (4, [0, 1, 5]), (5, [0, 1, 5]), (6, [0, 1, 5]), (7, [0, 1, 5]), (8, [5]), (9, [0, 1, 5])]
noncomputable def s54 : SCode := toS (planAt pl54) (keepAt kp54) (Tryz.f54.body.getD .skip)
theorem fn54 : FnIs Tryz.prog 54 37 [.tmp 4] s54 := FnIs.mk' (planAt pl54) (keepAt kp54) (by kernel_rfl)
def pl55 : List (Nat × Plan) := []
def kp55 : List (Nat × List Nat) := [(0, [0]), (1, [0]), (2, []), (3, [0]), (4, [])]
noncomputable def s55 : SCode := toS (planAt pl55) (keepAt kp55) (Tryz.f55.body.getD .skip)
theorem fn55 : FnIs Tryz.prog 55 7 [.tmp 2] s55 := FnIs.mk' (planAt pl55) (keepAt kp55) (by kernel_rfl)
def pl56 : List (Nat × Plan) := []
def kp56 : List (Nat × List Nat) := [(0, [0]), (1, [0]), (2, [0, 5, 6]), (3, [0, 5, 6]), (4, [0, 3, 4, 5, 6]), (5, [3]), (6, [0, 5, 6]), (7, [0]), (8, [])]
noncomputable def s56 : SCode := toS (planAt pl56) (keepAt kp56) (Tryz.f56.body.getD .skip)
theorem fn56 : FnIs Tryz.prog 56 19 [.tmp 2] s56 := FnIs.mk' (planAt pl56) (keepAt kp56) (by kernel_rfl)
def pl57 : List (Nat × Plan) := [(4, (.fl 0 (.fl 1 (.fl 2 (.fl 3 (.fl 4 (.fl 5 (.fl 6 (.fl 7 (.fl 8 (.fl 9 (.fl 10 (.fl 11 (.fl 12 (.fl 13 (.fl 14 .done))))))))))))))))]
def kp57 : List (Nat × List Nat) := [(0, [0, 1]), (1, [0, 1]), (2, []), (3, [0, 1]), (4, [0, 1, 5]), (5, [0, 1, 5]), (6, [0, 1, 5]), (7, [0, 1, 5]), (8, [5]), (9, [0, 1, 5])]
noncomputable def s57 : SCode := toS (planAt pl57) (keepAt kp57) (Tryz.f57.body.getD .skip)
theorem fn57 : FnIs Tryz.prog 57 37 [.tmp 4] s57 := FnIs.mk' (planAt pl57) (keepAt kp57) (by kernel_rfl)
def pl58 : List (Nat × Plan) := []
def kp58 : List (Nat × List Nat) := [(0, [0]), (1, [0, 1])]
noncomputable def s58 : SCode := toS (planAt pl58) (keepAt kp58) (Tryz.f58.body.getD .skip)
theorem fn58 : FnIs Tryz.prog 58 4 [.cell 1 35] s58 := FnIs.mk' (planAt pl58) (keepAt kp58) (by kernel_rfl)
def pl59 : List (Nat × Plan) := []
def kp59 : List (Nat × List Nat) := [(0, [0]), (1, [0]), (2, []), (3, [0]), (4, [5, 6]), (5, []), (6, [5])]
noncomputable def s59 : SCode := toS (planAt pl59) (keepAt kp59) (Tryz.f59.body.getD .skip)
theorem fn59 : FnIs Tryz.prog 59 19 [.tmp 2, .tmp 3] s59 := FnIs.mk' (planAt pl59) (keepAt kp59) (by kernel_rfl)
def pl60 : List (Nat × Plan) := []
def kp60 : List (Nat × List Nat) := [(0, [0, 1]), (1, [0, 1]), (2, [0]), (3, []), (4, [])]
noncomputable def s60 : SCode := toS (planAt pl60) (keepAt kp60) (Tryz.f60.body.getD .skip)
theorem fn60 : FnIs Tryz.prog 60 15 [.tmp 4] s60 := FnIs.mk' (planAt pl60) (keepAt kp60) (by kernel_rfl)
def pl61 : List (Nat × Plan) := [(1, (.fl 0 (.eff 1 [] (.fl 2 (.fl 3 (.fl 4 (.fl 5 (.fl 6 (.fl 7 (.fl 8 (.fl 9 (.fl 10 (.fl 11 (.fl 12 (.fl 13 (.fl 14 (.fl 15 (.fl 16 (.fl 17 (.fl 18 (.fl 19 (.fl 20 (.fl 21 (.fl 22 (.fl 23 (.fl 24 (.fl 25 (.fl 26 (.fl 27 (.fl 28 (.fl 29 (.fl 30 (.fl 31 (.eff 32 [] (.fl 33 (.fl 34 .done)))))))))))))))))))))))))))))))))))), (5, (.fl 0 (.fl 1 (.fl 2 (.fl 3 (.fl 4 (.fl 5 (.fl 6 (.fl 7 (.fl 8 (.fl 9 (.fl 10 (.fl 11 (.fl 12 .done))))))))))))))]
def kp61 : List (Nat × List Nat) := [(0, [0, 1]), (1, [0, 1]), (2, [0]), (3, []), (4, [0]), (5, [0])]
noncomputable def s61 : SCode := toS (planAt pl61) (keepAt kp61) (Tryz.f61.body.getD .skip)
theorem fn61 : FnIs Tryz.prog 61 61 [.tmp 4] s61 := FnIs.mk' (planAt pl61) (keepAt kp61) (by kernel_rfl)
def pl62 : List (Nat × Plan) := []
def kp62 : List (Nat × List Nat) := [(0, [0, 1]), (1, [0, 1]), (2, [0, 1]), (3, []), (4, [0, 1]), (5, []), (6, [0, 1]), (7, [0, 1]), (8, [0]), (9, [0])]
noncomputable def s62 : SCode := toS (planAt pl62) (keepAt kp62) (Tryz.f62.body.getD .skip)
theorem fn62 : FnIs Tryz.prog 62 35 [.tmp 4] s62 := FnIs.mk' (planAt pl62) (keepAt kp62) (by kernel_rfl)
def pl64 : List (Nat × Plan) := [(3, (.fl 0 (.fl 1 (.fl 2 (.eff 3 [2] (.eff 4 [] .done))))))]
def kp64 : List (Nat × List Nat) := [(0, [0, 1]), (1, [0, 1, 2, 3]), (2, [0, 1, 2]), (3, [0, 1, 2, 4])]
noncomputable def s64 : SCode := toS (planAt pl64) (keepAt kp64) (Tryz.f64.body.getD .skip)
theorem fn64 : FnIs Tryz.prog 64 14 [] s64 := FnIs.mk' (planAt pl64) (keepAt kp64) (by kernel_rfl)
def pl65 : List (Nat × Plan) := [(0, (.fl 0 (.fl 1 (.fl 2 (.fl 3 (.fl 4 (.fl 5 (.fl 6 (.fl 7 (.fl 8 (.fl 9 (.fl 10 (.fl 11 (.fl 12 (.fl 13 .done)))))))))))))))]
def kp65 : List (Nat × List Nat) := [(0, [0, 1]), (1, [0])]
noncomputable def s65 : SCode := toS (planAt pl65) (keepAt kp65) (Tryz.f65.body.getD .skip)
theorem fn65 : FnIs Tryz.prog 65 21 [] s65 := FnIs.mk' (planAt pl65) (keepAt kp65) (by kernel_rfl)
def pl66 : List (Nat × Plan) := [(1, (.fl 0 (.fl 1 (.fl 2 (.fl 3 (.fl 4 (.fl 5 (.fl 6 (.fl 7 (.fl 8 (.fl 9 .done))))))))))), (2, (.fl 0 (.fl 1 (.fl 2 (.fl 3 (.fl 4 (.fl 5 (.fl 6 (.fl 7 (.fl 8 (.fl 9 (.eff 10 [] .done))))))))))))]
def kp66 : List (Nat × List Nat) := [(0, [0]), (1, [0, 2]), (2, [0, 2]), (3, [2])]
noncomputable def s66 : SCode := toS (planAt pl66) (keepAt kp66) (Tryz.f66.body.getD .skip)
theorem fn66 : FnIs Tryz.prog 66 24 [.cell 2 110] s66 := FnIs.mk' (planAt pl66) (keepAt kp66) (by kernel_rfl)
def pl67 : List (Nat × Plan) := []
def kp67 : List (Nat × List Nat) := [(0, [0, 1]), (1, [0, 1, 2])]
noncomputable def s67 : SCode := toS (planAt pl67) (keepAt kp67) (Tryz.f67.body.getD .skip)
theorem fn67 : FnIs Tryz.prog 67 7 [.cell 2 35] s67 := FnIs.mk' (planAt pl67) (keepAt kp67) (by kernel_rfl)
def pl68 : List (Nat × Plan) := []
def kp68 : List (Nat × List Nat) := [(0, [0, 1]), (1, [0])]
noncomputable def s68 : SCode := toS (planAt pl68) (keepAt kp68) (Tryz.f68.body.getD .skip)
theorem fn68 : FnIs Tryz.prog 68 13 [] s68 := FnIs.mk' (planAt pl68) (keepAt kp68) (by kernel_rfl)
def pl69 : List (Nat × Plan) := [(3, (.fl 0 (.fl 1 (.fl 2 (.eff 3 [2] (.eff 4 [] .done))))))]
def kp69 : List (Nat × List Nat) := [(0, [0, 1]), (1, [0, 1, 2, 3]), (2, [0, 1, 2]), (3, [0, 1, 2, 4])]
noncomputable def s69 : SCode := toS (planAt pl69) (keepAt kp69) (Tryz.f69.body.getD .skip)
theorem fn69 : FnIs Tryz.prog 69 14 [] s69 := FnIs.mk' (planAt pl69) (keepAt kp69) (by kernel_rfl)
def pl70 : List (Nat × Plan) := []
def kp70 : List (Nat × List Nat) := [(0, [0, 1, 2, 3]), (1, [0, 1, 2, 3, 8]), (2, [0, 1, 2, 3, 8, 9]), (3, [0, 1, 2, 3, 8, 9]), (4, [1, 8, 9]), (5, [8, 9]), (6, [1, 8, 9])]
noncomputable def s70 : SCode := toS (planAt pl70) (keepAt kp70) (Tryz.f70.body.getD .skip)
theorem fn70 : FnIs Tryz.prog 70 30 [.cell 8 42] s70 := FnIs.mk' (planAt pl70) (keepAt kp70) (by kernel_rfl)
def pl71 : List (Nat × Plan) := []
def kp71 : List (Nat × List Nat) := [(0, [0, 1]), (1, [0, 1, 2])]
noncomputable def s71 : SCode := toS (planAt pl71) (keepAt kp71) (Tryz.f71.body.getD .skip)
theorem fn71 : FnIs Tryz.prog 71 6 [.cell 2 42] s71 := FnIs.mk' (planAt pl71) (keepAt kp71) (by kernel_rfl)
def pl72 : List (Nat × Plan) := []
def kp72 : List (Nat × List Nat) := [(0, [0, 1]), (1, [0, 1, 2])]
noncomputable def s72 : SCode := toS (planAt pl72) (keepAt kp72) (Tryz.f72.body.getD .skip)
theorem fn72 : FnIs Tryz.prog 72 6 [.cell 2 42] s72 := FnIs.mk' (planAt pl72) (keepAt kp72) (by kernel_rfl)
def pl73 : List (Nat × Plan) := [(15, (.fl 0 (.fl 1 (.fl 2 (.fl 3 (.fl 4 (.eff 5 [1] (.eff 6 [] (.eff 7 [] (.eff 8 [] .done)))))))))), (22, (.fl 0 (.fl 1 (.fl 2 (.fl 3 (.eff 4 [0] (.eff 5 [] (.eff 6 [] .done))))))))]
def kp73 : List (Nat × List Nat) := [(0, [0, 1]), (1, [0, 1, 4]), (2, [0, 1, 4]), (3, [4]), (4, [0, 1, 4]), (5, [4]), (6, [0, 1, 4]), (7, [0, 1, 4]), (8, [0, 1, 4]), (9, [0, 1, 4]), (10, [0, 1, 4]), (11, [0, 1, 4]), (12, [0, 1, 4, 5]), (13, [0, 1, 4, 5]), (14, [0, 1, 4, 5, 6]), (15, [0, 1, 4, 5, 6]), (16, [0, 1, 4]), (17, [0, 1, 4]), (18, [0, 4, 7]), (19, [4, 7]), (20, [0, 1, 4]), (21, [0, 1, 4, 8]), (22, [0, 1, 4, 8]), (23, [0, 4, 8]), (24, [0, 4, 8]), (25, [4, 8])]
noncomputable def s73 : SCode := toS (planAt pl73) (keepAt kp73) (Tryz.f73.body.getD .skip)
theorem fn73 : FnIs Tryz.prog 73 91 [.cell 4 42] s73 := FnIs.mk' (planAt pl73) (keepAt kp73) (by kernel_rfl)
def pl74 : List (Nat × Plan) := [(16, (.fl 0 (.fl 1 (.fl 2 (.fl 3 (.eff 4 [0] (.eff 5 [] (.fl 6 (.eff 7 [] .done))))))))), (24, (.fl 0 (.fl 1 (.fl 2 (.fl 3 (.eff 4 [0] (.eff 5 [] (.eff 6 [] .done))))))))]
def kp74 : List (Nat × List Nat) := [(0, [0, 1]), (1, [0, 1, 4]), (2, [0, 1, 4]), (3, [4]), (4, [0, 1, 4]), (5, [4]), (6, [0, 1, 4]), (7, [0, 1, 4]), (8, [0, 1, 4]), (9, [0, 1, 4]), (10, [0, 1, 4]), (11, [0, 1, 4]), (12, [0, 1, 4, 5]), (13, [0, 1, 4, 5, 6]), (14, [0, 1, 4, 5, 6]), (15, [0, 1, 4, 5, 6]), (16, [0, 1, 4, 5, 6]), (17, [4, 5]), (18, [0, 1, 4]), (19, [0, 1, 4]), (20, [0, 4, 7]), (21, [4, 7]), (22, [0, 1, 4]), (23, [0, 1, 4, 8]), (24, [0, 1, 4, 8]), (25, [0, 4, 8]), (26, [0, 4, 8]), (27, [4, 8])]
noncomputable def s74 : SCode := toS (planAt pl74) (keepAt kp74) (Tryz.f74.body.getD .skip)
theorem fn74 : FnIs Tryz.prog 74 86 [.cell 4 42] s74 := FnIs.mk' (planAt pl74) (keepAt kp74) (by kernel_rfl)
def pl75 : List (Nat × Plan) := [(3, (.fl 0 (.fl 1 (.fl 2 (.eff 3 [2] (.eff 4 [] .done))))))]
def kp75 : List (Nat × List Nat) := [(0, [0, 1]), (1, [0, 1, 2, 3]), (2, [0, 1, 2]), (3, [0, 1, 2, 4])]
noncomputable def s75 : SCode := toS (planAt pl75) (keepAt kp75) (Tryz.f75.body.getD .skip)
theorem fn75 : FnIs Tryz.prog 75 14 [] s75 := FnIs.mk' (planAt pl75) (keepAt kp75) (by kernel_rfl)
def pl76 : List (Nat × Plan) := []
def kp76 : List (Nat × List Nat) := [(0, [0]), (1, [0, 2]), (2, [0, 2, 3]), (3, [2, 3])]
noncomputable def s76 : SCode := toS (planAt pl76) (keepAt kp76) (Tryz.f76.body.getD .skip)
theorem fn76 : FnIs Tryz.prog 76 14 [.cell 2 110] s76 := FnIs.mk' (planAt pl76) (keepAt kp76) (by kernel_rfl)
def pl77 : List (Nat × Plan) := []
def kp77 : List (Nat × List Nat) := [(0, [0, 1]), (1, [0, 1, 2])]
noncomputable def s77 : SCode := toS (planAt pl77) (keepAt kp77) (Tryz.f77.body.getD .skip)
theorem fn77 : FnIs Tryz.prog 77 7 [.cell 2 49] s77 := FnIs.mk' (planAt pl77) (keepAt kp77) (by kernel_rfl)
def pl78 : List (Nat × Plan) := []
def kp78 : List (Nat × List Nat) := [(0, [0, 1]), (1, [0, 1]), (2, [0, 1, 5]), (3, [0, 1, 5]), (4, [0, 1, 5, 6, 7]), (5, []), (6, [0, 1, 5, 6]), (7, [])]
noncomputable def s78 : SCode := toS (planAt pl78) (keepAt kp78) (Tryz.f78.body.getD .skip)
theorem fn78 : FnIs Tryz.prog 78 36 [.tmp 4] s78 := FnIs.mk' (planAt pl78) (keepAt kp78) (by kernel_rfl)
def pl79 : List (Nat × Plan) := []
def kp79 : List (Nat × List Nat) := [(0, [1, 2]), (1, [2, 4]), (2, [])]
noncomputable def s79 : SCode := toS (planAt pl79) (keepAt kp79) (Tryz.f79.body.getD .skip)
theorem fn79 : FnIs Tryz.prog 79 10 [.tmp 5] s79 := FnIs.mk' (planAt pl79) (keepAt kp79) (by kernel_rfl)
def pl80 : List (Nat × Plan) := []
def kp80 : List (Nat × List Nat) := [(0, [0, 1]), (1, [0, 1]), (2, [1, 5])]
noncomputable def s80 : SCode := toS (planAt pl80) (keepAt kp80) (Tryz.f80.body.getD .skip)
theorem fn80 : FnIs Tryz.prog 80 22 [.tmp 4] s80 := FnIs.mk' (planAt pl80) (keepAt kp80) (by kernel_rfl)
def pl81 : List (Nat × Plan) := []
def kp81 : List (Nat × List Nat) := [(0, [0]), (1, [0]), (2, [3]), (3, [3]), (4, [3]), (5, [3]), (6, [3]), (7, [3]), (8, [3]), (9, [3]), (10, [3]), (11, [3]), (12, [3]), (13, [3]), (14, [3]), (15, [3]), (16, [3]), (17, [3]), (18, [3]), (19, [3]), (20, []), (21, [])]
noncomputable def s81 : SCode := toS (planAt pl81) (keepAt kp81) (Tryz.f81.body.getD .skip)
theorem fn81 : FnIs Tryz.prog 81 23 [.tmp 2] s81 := FnIs.mk' (planAt pl81) (keepAt kp81) (by kernel_rfl)
def pl82 : List (Nat × Plan) := []
def kp82 : List (Nat × List Nat) := [(0, [0]), (1, [0, 1])]
noncomputable def s82 : SCode := toS (planAt pl82) (keepAt kp82) (Tryz.f82.body.getD .skip)
theorem fn82 : FnIs Tryz.prog 82 4 [.cell 1 49] s82 := FnIs.mk' (planAt pl82) (keepAt kp82) (by kernel_rfl)
def pl83 : List (Nat × Plan) := [(9, (.fl 0 (.fl 1 (.fl 4 (.fl 5 (.both (.eff 2 [5] (.both (.eff 3 [5] (.eff 6 [] (.eff 7 [] (.eff 8 [] (.eff 9 [] .done))))) (.eff 6 [] (.eff 3 [5] (.eff 7 [] (.eff 8 [] (.eff 9 [] .done))))))) (.eff 6 [] (.eff 2 [5] (.eff 3 [5] (.eff 7 [] (.eff 8 [] (.eff 9 [] .done))))))))))))]
def kp83 : List (Nat × List Nat) := [(0, [0]), (1, [0]), (2, [0, 5, 6]), (3, [0, 5, 6, 7]), (4, [0, 5, 6, 7, 8]), (5, [0, 5, 6, 7, 8]), (6, [0, 5, 6, 7, 8]), (7, [0, 5, 6, 7, 8, 10, 11]), (8, [5, 6]), (9, [0, 5, 6, 7, 8, 10]), (10, [0, 5, 6, 7, 8, 10]), (11, [0, 5, 6, 7, 8, 9]), (12, [0, 5, 6, 8, 9]), (13, [0, 5, 6, 7, 8]), (14, [0, 5, 6, 7, 8, 9]), (15, [0, 5, 6, 7, 8]), (16, [0, 5, 6, 7, 8, 9]), (17, [0, 5, 6, 8]), (18, [0, 5, 6, 7, 8]), (19, [5, 6])]
noncomputable def s83 : SCode := toS (planAt pl83) (keepAt kp83) (Tryz.f83.body.getD .skip)
theorem fn83 : FnIs Tryz.prog 83 74 [.tmp 2, .tmp 3, .tmp 4] s83 := FnIs.mk' (planAt pl83) (keepAt kp83) (by kernel_rfl)
def pl84 : List (Nat × Plan) := [(1, (.fl 0 (.eff 1 [] (.fl 2 (.fl 3 (.fl 4 (.fl 5 (.fl 6 (.fl 7 (.fl 8 (.fl 9 (.fl 10 (.fl 11 (.fl 12 (.fl 13 (.fl 14 (.fl 15 (.fl 16 (.fl 17 (.fl 18 (.fl 19 (.fl 20 (.fl 21 (.fl 22 (.fl 23 (.fl 24 (.fl 25 (.fl 26 (.fl 27 (.fl 28 (.fl 29 (.fl 30 (.fl 31 (.fl 32 (.fl 33 (.fl 34 (.fl 35 (.fl 36 (.fl 37 (.fl 38 (.fl 39 (.fl 40 (.fl 41 (.fl 42 (.fl 43 (.fl 44 (.fl 45 (.fl 46 .done))))))))))))))))))))))))))))))))))))))))))))))))]
def kp84 : List (Nat × List Nat) := [(0, [0, 1]), (1, [0, 1])]
noncomputable def s84 : SCode := toS (planAt pl84) (keepAt kp84) (Tryz.f84.body.getD .skip)
theorem fn84 : FnIs Tryz.prog 84 51 [.tmp 4] s84 := FnIs.mk' (planAt pl84) (keepAt kp84) (by kernel_rfl)
def pl85 : List (Nat × Plan) := []
def kp85 : List (Nat × List Nat) := [(0, [0]), (1, [0]), (2, [0, 5, 6, 7]), (3, [0, 5, 6, 7]), (4, [0, 4, 5, 6, 7]), (5, []), (6, [0, 5, 6, 7]), (7, [])]
noncomputable def s85 : SCode := toS (planAt pl85) (keepAt kp85) (Tryz.f85.body.getD .skip)
theorem fn85 : FnIs Tryz.prog 85 15 [.tmp 2] s85 := FnIs.mk' (planAt pl85) (keepAt kp85) (by kernel_rfl)
def pl86 : List (Nat × Plan) := []
def kp86 : List (Nat × List Nat) := [(0, [0, 1]), (1, [0, 1]), (2, [0, 1]), (3, [0, 1, 12]), (4, [0, 1, 12]), (5, [0, 1, 12]), (6, [0, 1, 12]), (7, [0, 1]), (8, [0, 1, 12]), (9, [0, 1]), (10, [0, 1, 5]), (11, [0]), (12, [0, 1, 5]), (13, [1]), (14, [1])]
noncomputable def s86 : SCode := toS (planAt pl86) (keepAt kp86) (Tryz.f86.body.getD .skip)
theorem fn86 : FnIs Tryz.prog 86 35 [.tmp 4] s86 := FnIs.mk' (planAt pl86) (keepAt kp86) (by kernel_rfl)
def pl87 : List (Nat × Plan) := []
def kp87 : List (Nat × List Nat) := [(0, [0, 1]), (1, [0, 1, 4]), (2, [0, 1, 4, 6]), (3, [0, 1, 4, 6]), (4, [0, 1, 4, 6]), (5, [4, 6, 7]), (6, [4, 6, 7, 8]), (7, [4, 7]), (8, [4, 7, 8]), (9, [0, 1, 4, 6]), (10, [0, 1, 4, 6]), (11, [0, 1, 4]), (12, [0, 1, 4, 6]), (13, [4]), (14, [0, 1, 4, 6]), (15, [0, 1, 4]), (16, [4])]
noncomputable def s87 : SCode := toS (planAt pl87) (keepAt kp87) (Tryz.f87.body.getD .skip)
theorem fn87 : FnIs Tryz.prog 87 60 [.cell 4 110, .tmp 5] s87 := FnIs.mk' (planAt pl87) (keepAt kp87) (by kernel_rfl)
def pl88 : List (Nat × Plan) := [(15, (.fl 0 (.fl 1 (.fl 2 (.fl 4 (.fl 6 (.fl 7 (.fl 8 (.fl 9 (.fl 10 (.fl 11 (.fl 12 (.fl 13 (.fl 14 (.fl 15 (.both (.eff 3 [10] (.both (.eff 5 [10] (.eff 16 [] (.fl 17 (.fl 18 (.fl 19 (.eff 20 [] (.fl 21 .done))))))) (.eff 16 [] (.fl 17 (.fl 18 (.fl 19 (.eff 5 [10] (.eff 20 [] (.fl 21 .done))))))))) (.eff 16 [] (.fl 17 (.fl 18 (.fl 19 (.eff 3 [10] (.eff 5 [10] (.eff 20 [] (.fl 21 .done))))))))))))))))))))))))]
def kp88 : List (Nat × List Nat) := [(0, [0, 1]), (1, [0, 1, 4]), (2, [0, 1, 4, 6]), (3, [0, 1, 4, 6, 7]), (4, [0, 1, 4, 6, 7]), (5, [0, 1, 4, 6, 7]), (6, [0, 1, 4, 6, 7]), (7, [0, 1, 4, 6, 7, 8]), (8, [0, 1, 4, 7]), (9, [0, 1, 4, 7, 8]), (10, [0, 1, 4, 6, 7]), (11, [0, 1, 4, 7]), (12, [0, 1, 4, 7]), (13, [0, 1, 4, 7]), (14, [0, 1, 4, 7]), (15, [0, 1, 4, 7, 9, 10]), (16, [0, 1, 4, 6]), (17, [4]), (18, [0, 1, 4, 6]), (19, [0, 1, 4, 6, 119, 120, 121]), (20, [0, 1, 4, 6, 119, 120, 121]), (21, [0, 1, 4, 6, 12, 119, 120, 121]), (22, [0, 1, 4]), (23, [0, 1, 4, 6, 119, 120, 121]), (24, [4])]
noncomputable def s88 : SCode := toS (planAt pl88) (keepAt kp88) (Tryz.f88.body.getD .skip)
theorem fn88 : FnIs Tryz.prog 88 136 [.cell 4 110, .tmp 5] s88 := FnIs.mk' (planAt pl88) (keepAt kp88) (by kernel_rfl)
def pl90 : List (Nat × Plan) := []
def kp90 : List (Nat × List Nat) := [(0, [0]), (1, [0])]
noncomputable def s90 : SCode := toS (planAt pl90) (keepAt kp90) (Tryz.f90.body.getD .skip)
theorem fn90 : FnIs Tryz.prog 90 9 [.tmp 2] s90 := FnIs.mk' (planAt pl90) (keepAt kp90) (by kernel_rfl)
def pl91 : List (Nat × Plan) := []
def kp91 : List (Nat × List Nat) := [(0, [0]), (1, [0])]
noncomputable def s91 : SCode := toS (planAt pl91) (keepAt kp91) (Tryz.f91.body.getD .skip)
theorem fn91 : FnIs Tryz.prog 91 13 [.tmp 2] s91 := FnIs.mk' (planAt pl91) (keepAt kp91) (by kernel_rfl)
def pl92 : List (Nat × Plan) := []
def kp92 : List (Nat × List Nat) := [(0, [0, 1, 2]), (1, [0, 1, 2]), (2, [0, 1, 2, 7]), (3, [0, 1, 2, 7]), (4, [1, 7])]
noncomputable def s92 : SCode := toS (planAt pl92) (keepAt kp92) (Tryz.f92.body.getD .skip)
theorem fn92 : FnIs Tryz.prog 92 25 [.tmp 6] s92 := FnIs.mk' (planAt pl92) (keepAt kp92) (by kernel_rfl)
def pl93 : List (Nat × Plan) := []
def kp93 : List (Nat × List Nat) := [(0, [0]), (1, [0])]
noncomputable def s93 : SCode := toS (planAt pl93) (keepAt kp93) (Tryz.f93.body.getD .skip)
theorem fn93 : FnIs Tryz.prog 93 13 [.tmp 2] s93 := FnIs.mk' (planAt pl93) (keepAt kp93) (by kernel_rfl)
def pl94 : List (Nat × Plan) := []
def kp94 : List (Nat × List Nat) := [(0, [0]), (1, [0])]
noncomputable def s94 : SCode := toS (planAt pl94) (keepAt kp94) (Tryz.f94.body.getD .skip)
theorem fn94 : FnIs Tryz.prog 94 9 [.tmp 2] s94 := FnIs.mk' (planAt pl94) (keepAt kp94) (by kernel_rfl)
def pl95 : List (Nat × Plan) := []
def kp95 : List (Nat × List Nat) := [(0, [0, 1]), (1, [0, 1, 4]), (2, [0, 1, 4, 6]), (3, [0, 1, 4]), (4, [0, 1, 4, 6]), (5, [0, 1, 4, 6]), (6, [0, 1, 4, 6, 7]), (7, [0, 1, 4, 6, 7, 8, 9]), (8, [4]), (9, [0, 1, 4, 6, 7, 8]), (10, [4]), (11, [4, 7, 8])]
noncomputable def s95 : SCode := toS (planAt pl95) (keepAt kp95) (Tryz.f95.body.getD .skip)
theorem fn95 : FnIs Tryz.prog 95 59 [.cell 4 110, .tmp 5] s95 := FnIs.mk' (planAt pl95) (keepAt kp95) (by kernel_rfl)
def pl97 : List (Nat × Plan) := []
def kp97 : List (Nat × List Nat) := [(0, [0]), (1, [0])]
noncomputable def s97 : SCode := toS (planAt pl97) (keepAt kp97) (Tryz.f97.body.getD .skip)
theorem fn97 : FnIs Tryz.prog 97 21 [.tmp 2] s97 := FnIs.mk' (planAt pl97) (keepAt kp97) (by kernel_rfl)
def pl98 : List (Nat × Plan) := []
def kp98 : List (Nat × List Nat) := [(0, [0]), (1, [0])]
noncomputable def s98 : SCode := toS (planAt pl98) (keepAt kp98) (Tryz.f98.body.getD .skip)
theorem fn98 : FnIs Tryz.prog 98 9 [.tmp 2] s98 := FnIs.mk' (planAt pl98) (keepAt kp98) (by kernel_rfl)
def pl99 : List (Nat × Plan) := []
def kp99 : List (Nat × List Nat) := [(0, [0]), (1, [0]), (2, [0, 4]), (3, [0, 4]), (4, [0, 4]), (5, []), (6, [0, 4]), (7, [0, 4, 5]), (8, [0, 4, 5, 6]), (9, [0, 4, 5, 6]), (10, [0, 4, 5, 6]), (11, [0, 4, 5, 6, 7]), (12, []), (13, [0, 4, 5, 6, 7]), (14, [0, 5]), (15, [5]), (16, [5]), (17, []), (18, [5])]
noncomputable def s99 : SCode := toS (planAt pl99) (keepAt kp99) (Tryz.f99.body.getD .skip)
theorem fn99 : FnIs Tryz.prog 99 77 [.tmp 2, .tmp 3] s99 := FnIs.mk' (planAt pl99) (keepAt kp99) (by kernel_rfl)
end Go.Aug
