/- The facts of the program's functions, and the contracts of its lexer and parser; conditions stand in each contract. -/
import Derived.Test.YthldjffimcngaaaGreatDoorAugFour
import Derived.Test.YthldjffimcngaaaGreatDoorAugFive
import Derived.Test.YthldjffimcngaaaGreatDoorProg
import Derived.KernelRfl
set_option linter.all false
set_option linter.unusedVariables false
set_option linter.unusedSimpArgs false
set_option linter.unusedSectionVars false

/- The facts of the seat's types and functions that the reckoning asks; by program (gd.sh, gen2.py, mkpq.py). -/
namespace Go.Aug
open Go.Proofs
set_option maxRecDepth 100000
structure EbG where
  eb : Nat → Addr
  on : Nat → Bool
  mm : Nat → Option Obj
class On (e : EbG) (g : Nat) : Prop where
  on : e.on g = true
def panL : List Nat := [28, 29, 30, 31, 52, 53, 58, 59, 62, 63, 68, 69, 70, 71, 72, 73, 74, 75, 76, 77, 78, 95, 96, 97, 98, 101, 103, 107, 112]
def seatV (e : EbG) : Env := ⟨183, 185, e.eb, fun g => if e.on g = true then some (.sent g) else none, e.mm, fun _ => false, fun f => panL.contains f⟩
@[go_sem] theorem seatV_nz {e : EbG} {t : TypeId} : (seatV e).nz t = false := Eq.trans rfl rfl
theorem seatV_on {e : EbG} {g : Nat} (h : On e g) : (seatV e).G g = some (.sent g) := if_pos h.on
@[go_sem] theorem q_ifcT_116 : ifcT Tryz.prog 116 = true := by kernel_rfl
@[go_sem] theorem q_pan_8 {eb : EbG} : (seatV eb).pan 8 = false := by kernel_rfl
@[go_sem] theorem q_pan_9 {eb : EbG} : (seatV eb).pan 9 = false := by kernel_rfl
@[go_sem] theorem q_pan_10 {eb : EbG} : (seatV eb).pan 10 = false := by kernel_rfl
@[go_sem] theorem q_pan_13 {eb : EbG} : (seatV eb).pan 13 = false := by kernel_rfl
@[go_sem] theorem q_pan_14 {eb : EbG} : (seatV eb).pan 14 = false := by kernel_rfl
@[go_sem] theorem q_pan_15 {eb : EbG} : (seatV eb).pan 15 = false := by kernel_rfl
@[go_sem] theorem q_pan_16 {eb : EbG} : (seatV eb).pan 16 = false := by kernel_rfl
@[go_sem] theorem q_pan_17 {eb : EbG} : (seatV eb).pan 17 = false := by kernel_rfl
@[go_sem] theorem q_pan_19 {eb : EbG} : (seatV eb).pan 19 = false := by kernel_rfl
@[go_sem] theorem q_pan_22 {eb : EbG} : (seatV eb).pan 22 = false := by kernel_rfl
@[go_sem] theorem q_pan_25 {eb : EbG} : (seatV eb).pan 25 = false := by kernel_rfl
@[go_sem] theorem q_pan_27 {eb : EbG} : (seatV eb).pan 27 = false := by kernel_rfl
@[go_sem] theorem q_pan_29 {eb : EbG} : (seatV eb).pan 29 = true := by kernel_rfl
@[go_sem] theorem q_pan_30 {eb : EbG} : (seatV eb).pan 30 = true := by kernel_rfl
@[go_sem] theorem q_pan_31 {eb : EbG} : (seatV eb).pan 31 = true := by kernel_rfl
@[go_sem] theorem q_pan_36 {eb : EbG} : (seatV eb).pan 36 = false := by kernel_rfl
@[go_sem] theorem q_pan_37 {eb : EbG} : (seatV eb).pan 37 = false := by kernel_rfl
@[go_sem] theorem q_pan_38 {eb : EbG} : (seatV eb).pan 38 = false := by kernel_rfl
@[go_sem] theorem q_pan_39 {eb : EbG} : (seatV eb).pan 39 = false := by kernel_rfl
@[go_sem] theorem q_pan_40 {eb : EbG} : (seatV eb).pan 40 = false := by kernel_rfl
@[go_sem] theorem q_pan_41 {eb : EbG} : (seatV eb).pan 41 = false := by kernel_rfl
@[go_sem] theorem q_pan_42 {eb : EbG} : (seatV eb).pan 42 = false := by kernel_rfl
@[go_sem] theorem q_pan_44 {eb : EbG} : (seatV eb).pan 44 = false := by kernel_rfl
@[go_sem] theorem q_pan_45 {eb : EbG} : (seatV eb).pan 45 = false := by kernel_rfl
@[go_sem] theorem q_pan_46 {eb : EbG} : (seatV eb).pan 46 = false := by kernel_rfl
@[go_sem] theorem q_pan_48 {eb : EbG} : (seatV eb).pan 48 = false := by kernel_rfl
@[go_sem] theorem q_pan_49 {eb : EbG} : (seatV eb).pan 49 = false := by kernel_rfl
@[go_sem] theorem q_pan_50 {eb : EbG} : (seatV eb).pan 50 = false := by kernel_rfl
@[go_sem] theorem q_pan_53 {eb : EbG} : (seatV eb).pan 53 = true := by kernel_rfl
@[go_sem] theorem q_pan_54 {eb : EbG} : (seatV eb).pan 54 = false := by kernel_rfl
@[go_sem] theorem q_pan_55 {eb : EbG} : (seatV eb).pan 55 = false := by kernel_rfl
@[go_sem] theorem q_pan_59 {eb : EbG} : (seatV eb).pan 59 = true := by kernel_rfl
@[go_sem] theorem q_pan_60 {eb : EbG} : (seatV eb).pan 60 = false := by kernel_rfl
@[go_sem] theorem q_pan_63 {eb : EbG} : (seatV eb).pan 63 = true := by kernel_rfl
@[go_sem] theorem q_pan_65 {eb : EbG} : (seatV eb).pan 65 = false := by kernel_rfl
@[go_sem] theorem q_pan_67 {eb : EbG} : (seatV eb).pan 67 = false := by kernel_rfl
@[go_sem] theorem q_pan_68 {eb : EbG} : (seatV eb).pan 68 = true := by kernel_rfl
@[go_sem] theorem q_pan_69 {eb : EbG} : (seatV eb).pan 69 = true := by kernel_rfl
@[go_sem] theorem q_pan_70 {eb : EbG} : (seatV eb).pan 70 = true := by kernel_rfl
@[go_sem] theorem q_pan_71 {eb : EbG} : (seatV eb).pan 71 = true := by kernel_rfl
@[go_sem] theorem q_pan_72 {eb : EbG} : (seatV eb).pan 72 = true := by kernel_rfl
@[go_sem] theorem q_pan_74 {eb : EbG} : (seatV eb).pan 74 = true := by kernel_rfl
@[go_sem] theorem q_pan_76 {eb : EbG} : (seatV eb).pan 76 = true := by kernel_rfl
@[go_sem] theorem q_pan_77 {eb : EbG} : (seatV eb).pan 77 = true := by kernel_rfl
@[go_sem] theorem q_pan_84 {eb : EbG} : (seatV eb).pan 84 = false := by kernel_rfl
@[go_sem] theorem q_pan_85 {eb : EbG} : (seatV eb).pan 85 = false := by kernel_rfl
@[go_sem] theorem q_pan_86 {eb : EbG} : (seatV eb).pan 86 = false := by kernel_rfl
@[go_sem] theorem q_pan_87 {eb : EbG} : (seatV eb).pan 87 = false := by kernel_rfl
@[go_sem] theorem q_pan_88 {eb : EbG} : (seatV eb).pan 88 = false := by kernel_rfl
@[go_sem] theorem q_pan_89 {eb : EbG} : (seatV eb).pan 89 = false := by kernel_rfl
@[go_sem] theorem q_pan_90 {eb : EbG} : (seatV eb).pan 90 = false := by kernel_rfl
@[go_sem] theorem q_pan_91 {eb : EbG} : (seatV eb).pan 91 = false := by kernel_rfl
@[go_sem] theorem q_pan_92 {eb : EbG} : (seatV eb).pan 92 = false := by kernel_rfl
@[go_sem] theorem q_pan_93 {eb : EbG} : (seatV eb).pan 93 = false := by kernel_rfl
@[go_sem] theorem q_pan_95 {eb : EbG} : (seatV eb).pan 95 = true := by kernel_rfl
@[go_sem] theorem q_pan_98 {eb : EbG} : (seatV eb).pan 98 = true := by kernel_rfl
@[go_sem] theorem q_pan_99 {eb : EbG} : (seatV eb).pan 99 = false := by kernel_rfl
@[go_sem] theorem q_pan_101 {eb : EbG} : (seatV eb).pan 101 = true := by kernel_rfl
@[go_sem] theorem q_pan_102 {eb : EbG} : (seatV eb).pan 102 = false := by kernel_rfl
@[go_sem] theorem q_pan_106 {eb : EbG} : (seatV eb).pan 106 = false := by kernel_rfl
@[go_sem] theorem q_pan_108 {eb : EbG} : (seatV eb).pan 108 = false := by kernel_rfl
@[go_sem] theorem q_pan_110 {eb : EbG} : (seatV eb).pan 110 = false := by kernel_rfl
@[go_sem] theorem q_pan_111 {eb : EbG} : (seatV eb).pan 111 = false := by kernel_rfl
@[go_sem] theorem q_pan_117 {eb : EbG} : (seatV eb).pan 117 = false := by kernel_rfl
@[go_sem] theorem q_pan_118 {eb : EbG} : (seatV eb).pan 118 = false := by kernel_rfl
@[go_sem] theorem q_pan_119 {eb : EbG} : (seatV eb).pan 119 = false := by kernel_rfl
@[go_sem] theorem q_pan_121 {eb : EbG} : (seatV eb).pan 121 = false := by kernel_rfl
@[go_sem] theorem q_pan_122 {eb : EbG} : (seatV eb).pan 122 = false := by kernel_rfl
@[go_sem] theorem q_pan_123 {eb : EbG} : (seatV eb).pan 123 = false := by kernel_rfl
@[go_sem] theorem q_pan_125 {eb : EbG} : (seatV eb).pan 125 = false := by kernel_rfl
@[go_sem] theorem q_pan_126 {eb : EbG} : (seatV eb).pan 126 = false := by kernel_rfl
@[go_sem] theorem q_pan_133 {eb : EbG} : (seatV eb).pan 133 = false := by kernel_rfl
@[go_sem] theorem q_pan_134 {eb : EbG} : (seatV eb).pan 134 = false := by kernel_rfl
@[go_sem] theorem q_pan_135 {eb : EbG} : (seatV eb).pan 135 = false := by kernel_rfl
@[go_sem] theorem q_pan_136 {eb : EbG} : (seatV eb).pan 136 = false := by kernel_rfl
@[go_sem] theorem q_pan_137 {eb : EbG} : (seatV eb).pan 137 = false := by kernel_rfl
@[go_sem] theorem q_pan_138 {eb : EbG} : (seatV eb).pan 138 = false := by kernel_rfl
@[go_sem] theorem q_pan_139 {eb : EbG} : (seatV eb).pan 139 = false := by kernel_rfl
@[go_sem] theorem q_pan_140 {eb : EbG} : (seatV eb).pan 140 = false := by kernel_rfl
@[go_sem] theorem q_pan_148 {eb : EbG} : (seatV eb).pan 148 = false := by kernel_rfl
theorem mixed : Tryz.prog.follows .mixedOrders = true := by kernel_rfl
@[go_sem] theorem q_appOf_23 : appOf Tryz.prog 23 = (some (44, (20, 336))) := by kernel_rfl
@[go_sem] theorem q_appOf_33 : appOf Tryz.prog 33 = (some (9, (1, 16))) := by kernel_rfl
@[go_sem] theorem q_appOf_34 : appOf Tryz.prog 34 = (some (120, (2, 40))) := by kernel_rfl
@[go_sem] theorem q_appOf_35 : appOf Tryz.prog 35 = (some (63, (3, 48))) := by kernel_rfl
@[go_sem] theorem q_appOf_36 : appOf Tryz.prog 36 = (some (4, (1, 1))) := by kernel_rfl
@[go_sem] theorem q_appOf_37 : appOf Tryz.prog 37 = (some (39, (4, 56))) := by kernel_rfl
@[go_sem] theorem q_appOf_40 : appOf Tryz.prog 40 = (some (42, (12, 184))) := by kernel_rfl
@[go_sem] theorem q_appOf_46 : appOf Tryz.prog 46 = (some (50, (3, 32))) := by kernel_rfl
@[go_sem] theorem q_appOf_52 : appOf Tryz.prog 52 = (some (3, (1, 8))) := by kernel_rfl
@[go_sem] theorem q_arrOf_133 : arrOf Tryz.prog 133 = (some (5, (false, 1))) := by kernel_rfl
@[go_sem] theorem q_arrOf_142 : arrOf Tryz.prog 142 = (some (4, (false, 1))) := by kernel_rfl
@[go_sem] theorem q_bldOf_116 : bldOf Tryz.prog 116 = (some ([(.d (.raw .nilIface))], [(0, 1)])) := by kernel_rfl
@[go_sem] theorem q_bldOf_120 : bldOf Tryz.prog 120 = (some ([(.d (.str (ByteArray.mk (Array.mk [])))), .nils], [(0, 1), (1, 1)])) := by kernel_rfl
@[go_sem] theorem q_bldOf_133 : bldOf Tryz.prog 133 = (some ([(.d (.str (ByteArray.mk (Array.mk [])))), (.d (.str (ByteArray.mk (Array.mk [])))), (.d (.str (ByteArray.mk (Array.mk [])))), (.d (.str (ByteArray.mk (Array.mk [])))), (.d (.str (ByteArray.mk (Array.mk []))))], [(0, 1), (1, 1), (2, 1), (3, 1), (4, 1)])) := by kernel_rfl
@[go_sem] theorem q_bldOf_142 : bldOf Tryz.prog 142 = (some ([(.d (.str (ByteArray.mk (Array.mk [])))), (.d (.str (ByteArray.mk (Array.mk [])))), (.d (.str (ByteArray.mk (Array.mk [])))), (.d (.str (ByteArray.mk (Array.mk []))))], [(0, 1), (1, 1), (2, 1), (3, 1)])) := by kernel_rfl
@[go_sem] theorem q_bldOf_39 : bldOf Tryz.prog 39 = (some ([(.d (.int .i64 (0 : Int))), (.d (.str (ByteArray.mk (Array.mk [])))), (.d (.int .i64 (0 : Int))), .nils], [(0, 1), (1, 1), (2, 1), (3, 1)])) := by kernel_rfl
@[go_sem] theorem q_bldOf_42 : bldOf Tryz.prog 42 = (some ([(.d (.int .i64 (0 : Int))), (.d (.int .i64 (0 : Int))), (.d (.str (ByteArray.mk (Array.mk [])))), (.d (.int .i64 (0 : Int))), .nils, (.d (.int .i64 (0 : Int))), (.d (.str (ByteArray.mk (Array.mk [])))), (.d (.int .i64 (0 : Int))), .nils, (.d (.str (ByteArray.mk (Array.mk [])))), .nils, .nils], [(0, 1), (1, 4), (5, 4), (9, 1), (10, 1), (11, 1)])) := by kernel_rfl
@[go_sem] theorem q_bldOf_44 : bldOf Tryz.prog 44 = (some ([(.d (.int .i64 (0 : Int))), (.d (.str (ByteArray.mk (Array.mk [])))), .nils, .nils, .nils, .nils, (.d (.int .i64 (0 : Int))), .nils, (.d (.int .i64 (0 : Int))), (.d (.int .i64 (0 : Int))), (.d (.str (ByteArray.mk (Array.mk [])))), (.d (.int .i64 (0 : Int))), .nils, (.d (.int .i64 (0 : Int))), (.d (.str (ByteArray.mk (Array.mk [])))), (.d (.int .i64 (0 : Int))), .nils, (.d (.str (ByteArray.mk (Array.mk [])))), .nils, .nils], [(0, 1), (1, 1), (2, 1), (3, 1), (4, 1), (5, 1), (6, 1), (7, 1), (8, 12)])) := by kernel_rfl
@[go_sem] theorem q_bldOf_50 : bldOf Tryz.prog 50 = (some ([(.d (.int .i64 (0 : Int))), (.d (.str (ByteArray.mk (Array.mk [])))), (.d (.int .i64 (0 : Int)))], [(0, 1), (1, 1), (2, 1)])) := by kernel_rfl
@[go_sem] theorem q_bldOf_63 : bldOf Tryz.prog 63 = (some ([(.d (.bool false)), (.d (.str (ByteArray.mk (Array.mk [])))), .nils], [(0, 1), (1, 1), (2, 1)])) := by kernel_rfl
@[go_sem] theorem q_bldOf_71 : bldOf Tryz.prog 71 = (some ([.nils, (.d (.int .i64 (0 : Int)))], [(0, 1), (1, 1)])) := by kernel_rfl
@[go_sem] theorem q_bldOf_89 : bldOf Tryz.prog 89 = (some ([.nils, (.d (.int .i64 (0 : Int))), (.d (.int .i64 (0 : Int)))], [(0, 1), (1, 1), (2, 1)])) := by kernel_rfl
@[go_sem] theorem q_bsOf_23 : bsOf Tryz.prog 23 = (some (44, (20, false))) := by kernel_rfl
@[go_sem] theorem q_bsOf_33 : bsOf Tryz.prog 33 = (some (9, (1, false))) := by kernel_rfl
@[go_sem] theorem q_bsOf_34 : bsOf Tryz.prog 34 = (some (120, (2, false))) := by kernel_rfl
@[go_sem] theorem q_bsOf_35 : bsOf Tryz.prog 35 = (some (63, (3, false))) := by kernel_rfl
@[go_sem] theorem q_bsOf_36 : bsOf Tryz.prog 36 = (some (4, (1, false))) := by kernel_rfl
@[go_sem] theorem q_bsOf_37 : bsOf Tryz.prog 37 = (some (39, (4, false))) := by kernel_rfl
@[go_sem] theorem q_bsOf_40 : bsOf Tryz.prog 40 = (some (42, (12, false))) := by kernel_rfl
@[go_sem] theorem q_bsOf_46 : bsOf Tryz.prog 46 = (some (50, (3, false))) := by kernel_rfl
@[go_sem] theorem q_bsOf_52 : bsOf Tryz.prog 52 = (some (3, (1, false))) := by kernel_rfl
@[go_sem] theorem q_bsOf_77 : bsOf Tryz.prog 77 = (some (5, (1, true))) := by kernel_rfl
@[go_sem] theorem q_callable_10 : callable Tryz.prog 10 = true := by kernel_rfl
@[go_sem] theorem q_callable_101 : callable Tryz.prog 101 = true := by kernel_rfl
@[go_sem] theorem q_callable_102 : callable Tryz.prog 102 = true := by kernel_rfl
@[go_sem] theorem q_callable_106 : callable Tryz.prog 106 = true := by kernel_rfl
@[go_sem] theorem q_callable_108 : callable Tryz.prog 108 = true := by kernel_rfl
@[go_sem] theorem q_callable_110 : callable Tryz.prog 110 = true := by kernel_rfl
@[go_sem] theorem q_callable_111 : callable Tryz.prog 111 = true := by kernel_rfl
@[go_sem] theorem q_callable_117 : callable Tryz.prog 117 = true := by kernel_rfl
@[go_sem] theorem q_callable_118 : callable Tryz.prog 118 = true := by kernel_rfl
@[go_sem] theorem q_callable_119 : callable Tryz.prog 119 = true := by kernel_rfl
@[go_sem] theorem q_callable_121 : callable Tryz.prog 121 = true := by kernel_rfl
@[go_sem] theorem q_callable_122 : callable Tryz.prog 122 = true := by kernel_rfl
@[go_sem] theorem q_callable_123 : callable Tryz.prog 123 = true := by kernel_rfl
@[go_sem] theorem q_callable_125 : callable Tryz.prog 125 = true := by kernel_rfl
@[go_sem] theorem q_callable_126 : callable Tryz.prog 126 = true := by kernel_rfl
@[go_sem] theorem q_callable_13 : callable Tryz.prog 13 = true := by kernel_rfl
@[go_sem] theorem q_callable_133 : callable Tryz.prog 133 = true := by kernel_rfl
@[go_sem] theorem q_callable_134 : callable Tryz.prog 134 = true := by kernel_rfl
@[go_sem] theorem q_callable_135 : callable Tryz.prog 135 = true := by kernel_rfl
@[go_sem] theorem q_callable_136 : callable Tryz.prog 136 = true := by kernel_rfl
@[go_sem] theorem q_callable_137 : callable Tryz.prog 137 = true := by kernel_rfl
@[go_sem] theorem q_callable_138 : callable Tryz.prog 138 = true := by kernel_rfl
@[go_sem] theorem q_callable_139 : callable Tryz.prog 139 = true := by kernel_rfl
@[go_sem] theorem q_callable_14 : callable Tryz.prog 14 = true := by kernel_rfl
@[go_sem] theorem q_callable_140 : callable Tryz.prog 140 = true := by kernel_rfl
@[go_sem] theorem q_callable_148 : callable Tryz.prog 148 = true := by kernel_rfl
@[go_sem] theorem q_callable_15 : callable Tryz.prog 15 = true := by kernel_rfl
@[go_sem] theorem q_callable_16 : callable Tryz.prog 16 = true := by kernel_rfl
@[go_sem] theorem q_callable_17 : callable Tryz.prog 17 = true := by kernel_rfl
@[go_sem] theorem q_callable_19 : callable Tryz.prog 19 = true := by kernel_rfl
@[go_sem] theorem q_callable_22 : callable Tryz.prog 22 = true := by kernel_rfl
@[go_sem] theorem q_callable_25 : callable Tryz.prog 25 = true := by kernel_rfl
@[go_sem] theorem q_callable_27 : callable Tryz.prog 27 = true := by kernel_rfl
@[go_sem] theorem q_callable_29 : callable Tryz.prog 29 = true := by kernel_rfl
@[go_sem] theorem q_callable_30 : callable Tryz.prog 30 = true := by kernel_rfl
@[go_sem] theorem q_callable_31 : callable Tryz.prog 31 = true := by kernel_rfl
@[go_sem] theorem q_callable_36 : callable Tryz.prog 36 = true := by kernel_rfl
@[go_sem] theorem q_callable_37 : callable Tryz.prog 37 = true := by kernel_rfl
@[go_sem] theorem q_callable_38 : callable Tryz.prog 38 = true := by kernel_rfl
@[go_sem] theorem q_callable_39 : callable Tryz.prog 39 = true := by kernel_rfl
@[go_sem] theorem q_callable_40 : callable Tryz.prog 40 = true := by kernel_rfl
@[go_sem] theorem q_callable_41 : callable Tryz.prog 41 = true := by kernel_rfl
@[go_sem] theorem q_callable_42 : callable Tryz.prog 42 = true := by kernel_rfl
@[go_sem] theorem q_callable_44 : callable Tryz.prog 44 = true := by kernel_rfl
@[go_sem] theorem q_callable_45 : callable Tryz.prog 45 = true := by kernel_rfl
@[go_sem] theorem q_callable_46 : callable Tryz.prog 46 = true := by kernel_rfl
@[go_sem] theorem q_callable_48 : callable Tryz.prog 48 = true := by kernel_rfl
@[go_sem] theorem q_callable_49 : callable Tryz.prog 49 = true := by kernel_rfl
@[go_sem] theorem q_callable_50 : callable Tryz.prog 50 = true := by kernel_rfl
@[go_sem] theorem q_callable_53 : callable Tryz.prog 53 = true := by kernel_rfl
@[go_sem] theorem q_callable_54 : callable Tryz.prog 54 = true := by kernel_rfl
@[go_sem] theorem q_callable_55 : callable Tryz.prog 55 = true := by kernel_rfl
@[go_sem] theorem q_callable_59 : callable Tryz.prog 59 = true := by kernel_rfl
@[go_sem] theorem q_callable_60 : callable Tryz.prog 60 = true := by kernel_rfl
@[go_sem] theorem q_callable_63 : callable Tryz.prog 63 = true := by kernel_rfl
@[go_sem] theorem q_callable_65 : callable Tryz.prog 65 = true := by kernel_rfl
@[go_sem] theorem q_callable_67 : callable Tryz.prog 67 = true := by kernel_rfl
@[go_sem] theorem q_callable_68 : callable Tryz.prog 68 = true := by kernel_rfl
@[go_sem] theorem q_callable_69 : callable Tryz.prog 69 = true := by kernel_rfl
@[go_sem] theorem q_callable_70 : callable Tryz.prog 70 = true := by kernel_rfl
@[go_sem] theorem q_callable_71 : callable Tryz.prog 71 = true := by kernel_rfl
@[go_sem] theorem q_callable_72 : callable Tryz.prog 72 = true := by kernel_rfl
@[go_sem] theorem q_callable_74 : callable Tryz.prog 74 = true := by kernel_rfl
@[go_sem] theorem q_callable_76 : callable Tryz.prog 76 = true := by kernel_rfl
@[go_sem] theorem q_callable_77 : callable Tryz.prog 77 = true := by kernel_rfl
@[go_sem] theorem q_callable_8 : callable Tryz.prog 8 = true := by kernel_rfl
@[go_sem] theorem q_callable_84 : callable Tryz.prog 84 = true := by kernel_rfl
@[go_sem] theorem q_callable_85 : callable Tryz.prog 85 = true := by kernel_rfl
@[go_sem] theorem q_callable_86 : callable Tryz.prog 86 = true := by kernel_rfl
@[go_sem] theorem q_callable_87 : callable Tryz.prog 87 = true := by kernel_rfl
@[go_sem] theorem q_callable_88 : callable Tryz.prog 88 = true := by kernel_rfl
@[go_sem] theorem q_callable_89 : callable Tryz.prog 89 = true := by kernel_rfl
@[go_sem] theorem q_callable_9 : callable Tryz.prog 9 = true := by kernel_rfl
@[go_sem] theorem q_callable_90 : callable Tryz.prog 90 = true := by kernel_rfl
@[go_sem] theorem q_callable_91 : callable Tryz.prog 91 = true := by kernel_rfl
@[go_sem] theorem q_callable_92 : callable Tryz.prog 92 = true := by kernel_rfl
@[go_sem] theorem q_callable_93 : callable Tryz.prog 93 = true := by kernel_rfl
@[go_sem] theorem q_callable_95 : callable Tryz.prog 95 = true := by kernel_rfl
@[go_sem] theorem q_callable_98 : callable Tryz.prog 98 = true := by kernel_rfl
@[go_sem] theorem q_callable_99 : callable Tryz.prog 99 = true := by kernel_rfl
@[go_sem] theorem q_convOf_5_3 : convOf Tryz.prog 5 3 = (some (Conv.int .i64)) := by kernel_rfl
@[go_sem] theorem q_fieldOff_116_0 : fieldOff Tryz.prog 116 0 = (some 0) := by kernel_rfl
@[go_sem] theorem q_fieldOff_120_0 : fieldOff Tryz.prog 120 0 = (some 0) := by kernel_rfl
@[go_sem] theorem q_fieldOff_120_1 : fieldOff Tryz.prog 120 1 = (some 1) := by kernel_rfl
@[go_sem] theorem q_fieldOff_39_0 : fieldOff Tryz.prog 39 0 = (some 0) := by kernel_rfl
@[go_sem] theorem q_fieldOff_39_1 : fieldOff Tryz.prog 39 1 = (some 1) := by kernel_rfl
@[go_sem] theorem q_fieldOff_39_2 : fieldOff Tryz.prog 39 2 = (some 2) := by kernel_rfl
@[go_sem] theorem q_fieldOff_39_3 : fieldOff Tryz.prog 39 3 = (some 3) := by kernel_rfl
@[go_sem] theorem q_fieldOff_42_0 : fieldOff Tryz.prog 42 0 = (some 0) := by kernel_rfl
@[go_sem] theorem q_fieldOff_42_1 : fieldOff Tryz.prog 42 1 = (some 1) := by kernel_rfl
@[go_sem] theorem q_fieldOff_42_2 : fieldOff Tryz.prog 42 2 = (some 5) := by kernel_rfl
@[go_sem] theorem q_fieldOff_42_3 : fieldOff Tryz.prog 42 3 = (some 9) := by kernel_rfl
@[go_sem] theorem q_fieldOff_42_4 : fieldOff Tryz.prog 42 4 = (some 10) := by kernel_rfl
@[go_sem] theorem q_fieldOff_42_5 : fieldOff Tryz.prog 42 5 = (some 11) := by kernel_rfl
@[go_sem] theorem q_fieldOff_44_0 : fieldOff Tryz.prog 44 0 = (some 0) := by kernel_rfl
@[go_sem] theorem q_fieldOff_44_1 : fieldOff Tryz.prog 44 1 = (some 1) := by kernel_rfl
@[go_sem] theorem q_fieldOff_44_2 : fieldOff Tryz.prog 44 2 = (some 2) := by kernel_rfl
@[go_sem] theorem q_fieldOff_44_3 : fieldOff Tryz.prog 44 3 = (some 3) := by kernel_rfl
@[go_sem] theorem q_fieldOff_44_4 : fieldOff Tryz.prog 44 4 = (some 4) := by kernel_rfl
@[go_sem] theorem q_fieldOff_44_5 : fieldOff Tryz.prog 44 5 = (some 5) := by kernel_rfl
@[go_sem] theorem q_fieldOff_44_6 : fieldOff Tryz.prog 44 6 = (some 6) := by kernel_rfl
@[go_sem] theorem q_fieldOff_44_7 : fieldOff Tryz.prog 44 7 = (some 7) := by kernel_rfl
@[go_sem] theorem q_fieldOff_44_8 : fieldOff Tryz.prog 44 8 = (some 8) := by kernel_rfl
@[go_sem] theorem q_fieldOff_50_0 : fieldOff Tryz.prog 50 0 = (some 0) := by kernel_rfl
@[go_sem] theorem q_fieldOff_50_1 : fieldOff Tryz.prog 50 1 = (some 1) := by kernel_rfl
@[go_sem] theorem q_fieldOff_50_2 : fieldOff Tryz.prog 50 2 = (some 2) := by kernel_rfl
@[go_sem] theorem q_fieldOff_63_1 : fieldOff Tryz.prog 63 1 = (some 1) := by kernel_rfl
@[go_sem] theorem q_fieldOff_63_2 : fieldOff Tryz.prog 63 2 = (some 2) := by kernel_rfl
@[go_sem] theorem q_fieldOff_71_0 : fieldOff Tryz.prog 71 0 = (some 0) := by kernel_rfl
@[go_sem] theorem q_fieldOff_71_1 : fieldOff Tryz.prog 71 1 = (some 1) := by kernel_rfl
@[go_sem] theorem q_fieldOff_89_0 : fieldOff Tryz.prog 89 0 = (some 0) := by kernel_rfl
@[go_sem] theorem q_fieldOff_89_1 : fieldOff Tryz.prog 89 1 = (some 1) := by kernel_rfl
@[go_sem] theorem q_fieldOff_89_2 : fieldOff Tryz.prog 89 2 = (some 2) := by kernel_rfl
@[go_sem] theorem q_idxOf_23 : idxOf Tryz.prog 23 = (some 20) := by kernel_rfl
@[go_sem] theorem q_idxOf_33 : idxOf Tryz.prog 33 = (some 1) := by kernel_rfl
@[go_sem] theorem q_idxOf_34 : idxOf Tryz.prog 34 = (some 2) := by kernel_rfl
@[go_sem] theorem q_idxOf_35 : idxOf Tryz.prog 35 = (some 3) := by kernel_rfl
@[go_sem] theorem q_idxOf_36 : idxOf Tryz.prog 36 = (some 1) := by kernel_rfl
@[go_sem] theorem q_idxOf_37 : idxOf Tryz.prog 37 = (some 4) := by kernel_rfl
@[go_sem] theorem q_idxOf_40 : idxOf Tryz.prog 40 = (some 12) := by kernel_rfl
@[go_sem] theorem q_idxOf_46 : idxOf Tryz.prog 46 = (some 3) := by kernel_rfl
@[go_sem] theorem q_idxOf_77 : idxOf Tryz.prog 77 = (some 1) := by kernel_rfl
@[go_sem] theorem q_isIface_25 : isIface Tryz.prog 25 = true := by kernel_rfl
@[go_sem] theorem q_isSliceT_23 : isSliceT Tryz.prog 23 = true := by kernel_rfl
@[go_sem] theorem q_isSliceT_33 : isSliceT Tryz.prog 33 = true := by kernel_rfl
@[go_sem] theorem q_isSliceT_34 : isSliceT Tryz.prog 34 = true := by kernel_rfl
@[go_sem] theorem q_isSliceT_35 : isSliceT Tryz.prog 35 = true := by kernel_rfl
@[go_sem] theorem q_isSliceT_36 : isSliceT Tryz.prog 36 = true := by kernel_rfl
@[go_sem] theorem q_isSliceT_37 : isSliceT Tryz.prog 37 = true := by kernel_rfl
@[go_sem] theorem q_isSliceT_40 : isSliceT Tryz.prog 40 = true := by kernel_rfl
@[go_sem] theorem q_isSliceT_46 : isSliceT Tryz.prog 46 = true := by kernel_rfl
@[go_sem] theorem q_isSliceT_77 : isSliceT Tryz.prog 77 = true := by kernel_rfl
@[go_sem] theorem q_isStrT_9 : isStrT Tryz.prog 9 = true := by kernel_rfl
@[go_sem] theorem q_keyK_50 : keyK Tryz.prog 50 = (some (.row [(.int .i64), .str, (.int .i64)])) := by kernel_rfl
@[go_sem] theorem q_mkOf_33 : mkOf Tryz.prog 33 = (some (9, (1, (16, (.str (ByteArray.mk (Array.mk []))))))) := by kernel_rfl
@[go_sem] theorem q_partAt_50_0 : partAt Tryz.prog 50 0 = (some ((false, 1), 0)) := by kernel_rfl
@[go_sem] theorem q_partAt_50_1 : partAt Tryz.prog 50 1 = (some ((false, 1), 1)) := by kernel_rfl
@[go_sem] theorem q_sameSl_5_3 : sameSl Tryz.prog 5 3 = false := by kernel_rfl
@[go_sem] theorem q_sameSl_77_77 : sameSl Tryz.prog 77 77 = true := by kernel_rfl
@[go_sem] theorem q_sliceOf_9 : sliceOf Tryz.prog 9 = (some none) := by kernel_rfl
@[go_sem] theorem q_tshape_116 : tshape Tryz.prog 116 = (some (true, 1)) := by kernel_rfl
@[go_sem] theorem q_tshape_120 : tshape Tryz.prog 120 = (some (true, 2)) := by kernel_rfl
@[go_sem] theorem q_tshape_133 : tshape Tryz.prog 133 = (some (true, 5)) := by kernel_rfl
@[go_sem] theorem q_tshape_23 : tshape Tryz.prog 23 = (some (false, 1)) := by kernel_rfl
@[go_sem] theorem q_tshape_25 : tshape Tryz.prog 25 = (some (false, 1)) := by kernel_rfl
@[go_sem] theorem q_tshape_3 : tshape Tryz.prog 3 = (some (false, 1)) := by kernel_rfl
@[go_sem] theorem q_tshape_33 : tshape Tryz.prog 33 = (some (false, 1)) := by kernel_rfl
@[go_sem] theorem q_tshape_34 : tshape Tryz.prog 34 = (some (false, 1)) := by kernel_rfl
@[go_sem] theorem q_tshape_35 : tshape Tryz.prog 35 = (some (false, 1)) := by kernel_rfl
@[go_sem] theorem q_tshape_36 : tshape Tryz.prog 36 = (some (false, 1)) := by kernel_rfl
@[go_sem] theorem q_tshape_37 : tshape Tryz.prog 37 = (some (false, 1)) := by kernel_rfl
@[go_sem] theorem q_tshape_39 : tshape Tryz.prog 39 = (some (true, 4)) := by kernel_rfl
@[go_sem] theorem q_tshape_4 : tshape Tryz.prog 4 = (some (false, 1)) := by kernel_rfl
@[go_sem] theorem q_tshape_40 : tshape Tryz.prog 40 = (some (false, 1)) := by kernel_rfl
@[go_sem] theorem q_tshape_42 : tshape Tryz.prog 42 = (some (true, 12)) := by kernel_rfl
@[go_sem] theorem q_tshape_44 : tshape Tryz.prog 44 = (some (true, 20)) := by kernel_rfl
@[go_sem] theorem q_tshape_46 : tshape Tryz.prog 46 = (some (false, 1)) := by kernel_rfl
@[go_sem] theorem q_tshape_5 : tshape Tryz.prog 5 = (some (false, 1)) := by kernel_rfl
@[go_sem] theorem q_tshape_50 : tshape Tryz.prog 50 = (some (true, 3)) := by kernel_rfl
@[go_sem] theorem q_tshape_63 : tshape Tryz.prog 63 = (some (true, 3)) := by kernel_rfl
@[go_sem] theorem q_tshape_69 : tshape Tryz.prog 69 = (some (false, 1)) := by kernel_rfl
@[go_sem] theorem q_tshape_9 : tshape Tryz.prog 9 = (some (false, 1)) := by kernel_rfl
@[go_sem] theorem q_zeroOf_116 : zeroOf Tryz.prog 116 = (some [(.d (.raw .nilIface))]) := by kernel_rfl
@[go_sem] theorem q_zeroOf_120 : zeroOf Tryz.prog 120 = (some [(.d (.str (ByteArray.mk (Array.mk [])))), .nils]) := by kernel_rfl
@[go_sem] theorem q_zeroOf_133 : zeroOf Tryz.prog 133 = (some [(.d (.str (ByteArray.mk (Array.mk [])))), (.d (.str (ByteArray.mk (Array.mk [])))), (.d (.str (ByteArray.mk (Array.mk [])))), (.d (.str (ByteArray.mk (Array.mk [])))), (.d (.str (ByteArray.mk (Array.mk []))))]) := by kernel_rfl
@[go_sem] theorem q_zeroOf_23 : zeroOf Tryz.prog 23 = (some [.nils]) := by kernel_rfl
@[go_sem] theorem q_zeroOf_25 : zeroOf Tryz.prog 25 = (some [(.d (.raw .nilIface))]) := by kernel_rfl
@[go_sem] theorem q_zeroOf_39 : zeroOf Tryz.prog 39 = (some [(.d (.int .i64 (0 : Int))), (.d (.str (ByteArray.mk (Array.mk [])))), (.d (.int .i64 (0 : Int))), .nils]) := by kernel_rfl
@[go_sem] theorem q_zeroOf_42 : zeroOf Tryz.prog 42 = (some [(.d (.int .i64 (0 : Int))), (.d (.int .i64 (0 : Int))), (.d (.str (ByteArray.mk (Array.mk [])))), (.d (.int .i64 (0 : Int))), .nils, (.d (.int .i64 (0 : Int))), (.d (.str (ByteArray.mk (Array.mk [])))), (.d (.int .i64 (0 : Int))), .nils, (.d (.str (ByteArray.mk (Array.mk [])))), .nils, .nils]) := by kernel_rfl
@[go_sem] theorem q_zeroOf_44 : zeroOf Tryz.prog 44 = (some [(.d (.int .i64 (0 : Int))), (.d (.str (ByteArray.mk (Array.mk [])))), .nils, .nils, .nils, .nils, (.d (.int .i64 (0 : Int))), .nils, (.d (.int .i64 (0 : Int))), (.d (.int .i64 (0 : Int))), (.d (.str (ByteArray.mk (Array.mk [])))), (.d (.int .i64 (0 : Int))), .nils, (.d (.int .i64 (0 : Int))), (.d (.str (ByteArray.mk (Array.mk [])))), (.d (.int .i64 (0 : Int))), .nils, (.d (.str (ByteArray.mk (Array.mk [])))), .nils, .nils]) := by kernel_rfl
@[go_sem] theorem q_zeroOf_46 : zeroOf Tryz.prog 46 = (some [.nils]) := by kernel_rfl
@[go_sem] theorem q_zeroOf_50 : zeroOf Tryz.prog 50 = (some [(.d (.int .i64 (0 : Int))), (.d (.str (ByteArray.mk (Array.mk [])))), (.d (.int .i64 (0 : Int)))]) := by kernel_rfl
@[go_sem] theorem q_zeroOf_63 : zeroOf Tryz.prog 63 = (some [(.d (.bool false)), (.d (.str (ByteArray.mk (Array.mk [])))), .nils]) := by kernel_rfl
def pl3 : List (Nat × Plan) := []
def kp3 : List (Nat × List Nat) := [(0, [0]), (1, [0]), (2, []), (3, [0]), (4, [3, 4]), (5, []), (6, [3]), (7, [3, 5]), (8, [3, 4, 5, 6]), (9, [4]), (10, [3, 4, 5, 6])]
noncomputable def s3 : SCode := toS (planAt pl3) (keepAt kp3) (Tryz.f3.body.getD .skip)
def pl4 : List (Nat × Plan) := []
def kp4 : List (Nat × List Nat) := [(0, [0]), (1, [0]), (2, []), (3, [0]), (4, [3, 4]), (5, []), (6, [3]), (7, [3, 5]), (8, [3, 5, 18, 19, 20]), (9, [3, 5, 18, 19, 20]), (10, [3, 5, 7, 18, 19, 20]), (11, [3, 5, 8, 18, 19, 20]), (12, []), (13, [3, 5, 8, 18, 19, 20]), (14, [3, 5, 18, 19, 20]), (15, [3, 5])]
noncomputable def s4 : SCode := toS (planAt pl4) (keepAt kp4) (Tryz.f4.body.getD .skip)
def pl5 : List (Nat × Plan) := []
def kp5 : List (Nat × List Nat) := [(0, [0]), (1, [0]), (2, []), (3, [0]), (4, [0, 3, 4]), (5, [3, 4, 5]), (6, []), (7, [3, 5]), (8, [3, 5, 25, 26, 27]), (9, [3, 5, 25, 26, 27]), (10, [3, 5, 7, 8, 25, 26, 27]), (11, []), (12, [3, 5, 7, 8, 25, 26, 27]), (13, []), (14, [3, 5, 25, 26, 27]), (15, [3, 5]), (16, [5, 9]), (17, []), (18, [5, 9]), (19, [4, 5, 10])]
noncomputable def s5 : SCode := toS (planAt pl5) (keepAt kp5) (Tryz.f5.body.getD .skip)
theorem fn5 : FnIs Tryz.prog 5 87 [.tmp 2] s5 := FnIs.mk' (planAt pl5) (keepAt kp5) (by kernel_rfl)
def pl6 : List (Nat × Plan) := []
def kp6 : List (Nat × List Nat) := [(0, [0]), (1, [0]), (2, []), (3, [0]), (4, [0, 3]), (5, [3, 12, 13, 14]), (6, [3, 12, 13, 14]), (7, [3, 4, 5, 12, 13, 14]), (8, [3, 5, 12, 13, 14]), (9, [3, 5, 6, 12, 13, 14]), (10, [3, 6, 12, 13, 14, 23]), (11, [3, 6, 12, 13, 14]), (12, [3, 6, 12, 13, 14, 23]), (13, [3, 6, 12, 13, 14]), (14, [3, 6, 12, 13, 14, 23]), (15, [3, 6, 12, 13, 14]), (16, [3, 6, 12, 13, 14, 23]), (17, [3, 6, 12, 13, 14]), (18, [3, 6, 12, 13, 14, 23]), (19, [3, 12, 13, 14]), (20, [3, 6, 12, 13, 14, 23]), (21, [3, 6, 12, 13, 14]), (22, [3, 6, 12, 13, 14, 23]), (23, [3, 6, 12, 13, 14]), (24, [3, 12, 13, 14]), (25, [3]), (26, [3, 7, 8])]
noncomputable def s6 : SCode := toS (planAt pl6) (keepAt kp6) (Tryz.f6.body.getD .skip)
def pl7 : List (Nat × Plan) := []
def kp7 : List (Nat × List Nat) := [(0, [0]), (1, [0]), (2, []), (3, [0]), (4, [0, 3, 4]), (5, [0, 3]), (6, [0, 3, 5, 6]), (7, []), (8, [0]), (9, [0, 7, 8]), (10, [0, 7]), (11, [0, 7, 9, 10]), (12, []), (13, [0]), (14, [11, 12]), (15, [11]), (16, [11, 13, 14]), (17, [])]
noncomputable def s7 : SCode := toS (planAt pl7) (keepAt kp7) (Tryz.f7.body.getD .skip)
def pl8 : List (Nat × Plan) := []
def kp8 : List (Nat × List Nat) := [(0, []), (1, []), (2, [1, 2])]
noncomputable def s8 : SCode := toS (planAt pl8) (keepAt kp8) (Tryz.f8.body.getD .skip)
theorem fn8 : FnIs Tryz.prog 8 19 [.tmp 0] s8 := FnIs.mk' (planAt pl8) (keepAt kp8) (by kernel_rfl)
def pl9 : List (Nat × Plan) := []
def kp9 : List (Nat × List Nat) := [(0, [0]), (1, [0])]
noncomputable def s9 : SCode := toS (planAt pl9) (keepAt kp9) (Tryz.f9.body.getD .skip)
theorem fn9 : FnIs Tryz.prog 9 8 [.tmp 2, .tmp 3] s9 := FnIs.mk' (planAt pl9) (keepAt kp9) (by kernel_rfl)
def pl10 : List (Nat × Plan) := []
def kp10 : List (Nat × List Nat) := [(0, [0]), (1, [0]), (2, [0, 3]), (3, [3, 6, 7, 8]), (4, [3, 6, 7, 8]), (5, [3, 5, 6, 7, 8]), (6, [3, 6, 7, 8]), (7, [3])]
noncomputable def s10 : SCode := toS (planAt pl10) (keepAt kp10) (Tryz.f10.body.getD .skip)
def pl13 : List (Nat × Plan) := [(9, (.fl 0 (.fl 1 (.fl 2 (.fl 3 (.fl 4 (.fl 5 .done)))))))]
def kp13 : List (Nat × List Nat) := [(0, [0]), (1, [0]), (2, [4]), (3, [4, 5]), (4, [4, 5]), (5, [4, 5]), (6, [4, 5]), (7, [4, 5]), (8, [4, 5]), (9, [4]), (10, [5])]
noncomputable def s13 : SCode := toS (planAt pl13) (keepAt kp13) (Tryz.f13.body.getD .skip)
theorem fn13 : FnIs Tryz.prog 13 32 [.tmp 2, .tmp 3] s13 := FnIs.mk' (planAt pl13) (keepAt kp13) (by kernel_rfl)
def pl14 : List (Nat × Plan) := [(4, (.fl 0 (.fl 1 (.fl 2 (.fl 3 (.fl 4 (.fl 8 (.fl 9 (.eff 5 [1, 9] (.fl 6 (.fl 7 (.eff 10 [1] (.fl 11 (.fl 12 .done)))))))))))))), (6, (.fl 0 (.fl 1 (.fl 2 (.fl 3 (.fl 4 (.eff 5 [1] (.fl 6 (.fl 7 .done))))))))), (8, (.fl 0 (.fl 1 (.fl 2 (.fl 3 (.fl 4 (.fl 8 (.fl 9 (.eff 5 [1, 9] (.fl 6 (.fl 7 (.eff 10 [1] (.fl 11 (.fl 12 .done)))))))))))))), (10, (.fl 0 (.fl 1 (.fl 2 (.fl 3 (.eff 4 [1] (.fl 5 (.fl 6 .done))))))))]
def kp14 : List (Nat × List Nat) := [(0, [0]), (1, [1]), (2, [1, 3]), (3, [1, 3, 5]), (4, [1]), (5, [1, 3, 5]), (6, [1]), (7, [1, 3, 5]), (8, [1]), (9, [1, 3, 5]), (10, [1]), (11, [1, 3]), (12, [1, 3]), (13, [3])]
noncomputable def s14 : SCode := toS (planAt pl14) (keepAt kp14) (Tryz.f14.body.getD .skip)
theorem fn14 : FnIs Tryz.prog 14 63 [.tmp 2] s14 := FnIs.mk' (planAt pl14) (keepAt kp14) (by kernel_rfl)
def pl15 : List (Nat × Plan) := []
def kp15 : List (Nat × List Nat) := [(0, [0]), (1, [0]), (2, []), (3, [0]), (4, [5, 6]), (5, []), (6, [5])]
noncomputable def s15 : SCode := toS (planAt pl15) (keepAt kp15) (Tryz.f15.body.getD .skip)
theorem fn15 : FnIs Tryz.prog 15 19 [.tmp 2, .tmp 3] s15 := FnIs.mk' (planAt pl15) (keepAt kp15) (by kernel_rfl)
def pl16 : List (Nat × Plan) := []
def kp16 : List (Nat × List Nat) := [(0, [0]), (1, [0]), (2, [0, 5, 6, 7]), (3, [0, 5, 6, 7]), (4, [0, 4, 5, 6, 7]), (5, []), (6, [0, 5, 6, 7]), (7, [])]
noncomputable def s16 : SCode := toS (planAt pl16) (keepAt kp16) (Tryz.f16.body.getD .skip)
theorem fn16 : FnIs Tryz.prog 16 15 [.tmp 2] s16 := FnIs.mk' (planAt pl16) (keepAt kp16) (by kernel_rfl)
def pl17 : List (Nat × Plan) := [(6, (.fl 0 (.fl 1 (.fl 2 (.fl 3 (.fl 4 (.fl 5 (.fl 6 (.fl 7 (.fl 8 .done))))))))))]
def kp17 : List (Nat × List Nat) := [(0, [0, 1]), (1, [0, 1]), (2, []), (3, [0, 1]), (4, [0, 1, 12, 13]), (5, [0, 1, 12, 13]), (6, [0, 1, 5, 12, 13]), (7, []), (8, [0, 1, 12, 13]), (9, [])]
noncomputable def s17 : SCode := toS (planAt pl17) (keepAt kp17) (Tryz.f17.body.getD .skip)
theorem fn17 : FnIs Tryz.prog 17 26 [.tmp 4] s17 := FnIs.mk' (planAt pl17) (keepAt kp17) (by kernel_rfl)
def pl19 : List (Nat × Plan) := [(7, (.fl 0 (.fl 1 (.fl 4 (.fl 5 (.eff 2 [5] (.fl 3 (.eff 6 [] (.fl 7 (.fl 8 .done)))))))))), (9, (.fl 0 (.fl 1 (.fl 2 (.fl 3 (.eff 4 [1] (.fl 5 (.fl 6 .done)))))))), (19, (.fl 0 (.fl 4 (.fl 5 (.fl 8 (.eff 1 [5, 8] (.fl 2 (.fl 3 (.fl 6 (.fl 7 (.eff 9 [5] (.fl 10 (.fl 11 .done)))))))))))))]
def kp19 : List (Nat × List Nat) := [(0, [0]), (1, [1]), (2, [1, 4]), (3, []), (4, [1, 4]), (5, []), (6, [1, 4]), (7, [1]), (8, [1, 4]), (9, [1]), (10, [1, 4]), (11, [1]), (12, [1, 4]), (13, [1]), (14, [1, 4]), (15, [1]), (16, [1, 4]), (17, [1]), (18, [1, 4]), (19, [1]), (20, [])]
noncomputable def s19 : SCode := toS (planAt pl19) (keepAt kp19) (Tryz.f19.body.getD .skip)
theorem fn19 : FnIs Tryz.prog 19 59 [.tmp 2] s19 := FnIs.mk' (planAt pl19) (keepAt kp19) (by kernel_rfl)
def pl22 : List (Nat × Plan) := [(2, (.fl 0 (.fl 1 (.fl 3 (.fl 4 (.eff 2 [4] (.eff 5 [] (.fl 6 (.fl 7 .done))))))))), (3, (.fl 0 (.fl 1 (.fl 2 (.fl 3 (.eff 4 [1] (.fl 5 (.fl 6 .done))))))))]
def kp22 : List (Nat × List Nat) := [(0, [0]), (1, [1]), (2, [1]), (3, [1])]
noncomputable def s22 : SCode := toS (planAt pl22) (keepAt kp22) (Tryz.f22.body.getD .skip)
theorem fn22 : FnIs Tryz.prog 22 19 [.tmp 2] s22 := FnIs.mk' (planAt pl22) (keepAt kp22) (by kernel_rfl)
def pl25 : List (Nat × Plan) := [(1, (.fl 0 (.fl 1 (.fl 2 (.fl 3 (.eff 4 [1] (.fl 5 (.fl 6 .done))))))))]
def kp25 : List (Nat × List Nat) := [(0, [0]), (1, [1])]
noncomputable def s25 : SCode := toS (planAt pl25) (keepAt kp25) (Tryz.f25.body.getD .skip)
theorem fn25 : FnIs Tryz.prog 25 9 [.tmp 2] s25 := FnIs.mk' (planAt pl25) (keepAt kp25) (by kernel_rfl)
def pl27 : List (Nat × Plan) := [(3, (.fl 0 (.fl 1 (.eff 2 [1] (.eff 3 [] .done)))))]
def kp27 : List (Nat × List Nat) := [(0, [0, 1]), (1, [0, 1, 4, 5]), (2, [1, 4, 5, 6]), (3, [4, 5]), (4, [1, 4, 5, 6]), (5, [1, 4, 5, 6]), (6, [1, 4, 5, 6, 7]), (7, [4, 5, 6, 7]), (8, [4, 5, 7]), (9, [4, 5])]
noncomputable def s27 : SCode := toS (planAt pl27) (keepAt kp27) (Tryz.f27.body.getD .skip)
theorem fn27 : FnIs Tryz.prog 27 35 [.cell 4 23, .cell 5 25] s27 := FnIs.mk' (planAt pl27) (keepAt kp27) (by kernel_rfl)
def pl28 : List (Nat × Plan) := [(2, (.fl 0 (.fl 1 (.fl 2 (.fl 3 (.fl 4 (.fl 5 (.fl 6 (.fl 7 (.fl 8 (.fl 9 .done)))))))))))]
def kp28 : List (Nat × List Nat) := [(0, [0]), (1, [0]), (2, [0, 3]), (3, [0, 3]), (4, [0, 3]), (5, [0, 3]), (6, [0, 3]), (7, [3])]
noncomputable def s28 : SCode := toS (planAt pl28) (keepAt kp28) (Tryz.f28.body.getD .skip)
theorem fn28 : FnIs Tryz.prog 28 28 [.tmp 2] s28 := FnIs.mk' (planAt pl28) (keepAt kp28) (by kernel_rfl)
def pl29 : List (Nat × Plan) := []
def kp29 : List (Nat × List Nat) := [(0, [1])]
noncomputable def s29 : SCode := toS (planAt pl29) (keepAt kp29) (Tryz.f29.body.getD .skip)
theorem fn29 : FnIs Tryz.prog 29 7 [] s29 := FnIs.mk' (planAt pl29) (keepAt kp29) (by kernel_rfl)
def pl30 : List (Nat × Plan) := [(2, (.fl 0 (.fl 2 (.fl 3 (.both (.eff 1 [2, 3] (.both (.eff 4 [0, 2] (.both (.eff 5 [] (.both (.eff 6 [] (.eff 7 [0, 2, 3] (.eff 8 [] .done))) (.eff 7 [0, 2, 3] (.eff 6 [] (.eff 8 [] .done))))) (.eff 7 [0, 2, 3] (.eff 5 [] (.eff 6 [] (.eff 8 [] .done)))))) (.eff 7 [0, 2, 3] (.eff 4 [0, 2] (.eff 5 [] (.eff 6 [] (.eff 8 [] .done))))))) (.both (.eff 4 [0, 2] (.both (.eff 1 [2, 3] (.both (.eff 5 [] (.both (.eff 6 [] (.eff 7 [0, 2, 3] (.eff 8 [] .done))) (.eff 7 [0, 2, 3] (.eff 6 [] (.eff 8 [] .done))))) (.eff 7 [0, 2, 3] (.eff 5 [] (.eff 6 [] (.eff 8 [] .done)))))) (.eff 7 [0, 2, 3] (.eff 1 [2, 3] (.eff 5 [] (.eff 6 [] (.eff 8 [] .done))))))) (.eff 7 [0, 2, 3] (.both (.eff 1 [2, 3] (.eff 4 [0, 2] (.eff 5 [] (.eff 6 [] (.eff 8 [] .done))))) (.eff 4 [0, 2] (.eff 1 [2, 3] (.eff 5 [] (.eff 6 [] (.eff 8 [] .done))))))))))))), (4, (.fl 0 (.fl 1 (.fl 2 (.eff 3 [1] (.eff 4 [1] (.eff 5 [] (.fl 6 (.eff 7 [] .done))))))))), (6, (.fl 0 (.fl 1 (.fl 2 (.eff 3 [1] (.eff 4 [1] (.eff 5 [] (.fl 6 (.eff 7 [] .done))))))))), (9, (.fl 0 (.fl 2 (.both (.eff 1 [2] (.eff 3 [0, 2] (.eff 4 [] (.eff 5 [] (.eff 6 [] .done))))) (.eff 3 [0, 2] (.eff 1 [2] (.eff 4 [] (.eff 5 [] (.eff 6 [] .done))))))))), (11, (.fl 0 (.fl 2 (.fl 3 (.both (.eff 1 [2, 3] (.both (.eff 4 [0, 2] (.both (.eff 5 [] (.both (.eff 6 [] (.eff 7 [0, 2, 3] (.eff 8 [] .done))) (.eff 7 [0, 2, 3] (.eff 6 [] (.eff 8 [] .done))))) (.eff 7 [0, 2, 3] (.eff 5 [] (.eff 6 [] (.eff 8 [] .done)))))) (.eff 7 [0, 2, 3] (.eff 4 [0, 2] (.eff 5 [] (.eff 6 [] (.eff 8 [] .done))))))) (.both (.eff 4 [0, 2] (.both (.eff 1 [2, 3] (.both (.eff 5 [] (.both (.eff 6 [] (.eff 7 [0, 2, 3] (.eff 8 [] .done))) (.eff 7 [0, 2, 3] (.eff 6 [] (.eff 8 [] .done))))) (.eff 7 [0, 2, 3] (.eff 5 [] (.eff 6 [] (.eff 8 [] .done)))))) (.eff 7 [0, 2, 3] (.eff 1 [2, 3] (.eff 5 [] (.eff 6 [] (.eff 8 [] .done))))))) (.eff 7 [0, 2, 3] (.both (.eff 1 [2, 3] (.eff 4 [0, 2] (.eff 5 [] (.eff 6 [] (.eff 8 [] .done))))) (.eff 4 [0, 2] (.eff 1 [2, 3] (.eff 5 [] (.eff 6 [] (.eff 8 [] .done))))))))))))), (15, (.fl 0 (.fl 2 (.both (.eff 1 [2] (.both (.eff 3 [0, 2] (.both (.eff 4 [] (.both (.eff 5 [0, 2] (.both (.eff 6 [] (.eff 7 [0, 2] (.eff 8 [] .done))) (.eff 7 [0, 2] (.eff 6 [] (.eff 8 [] .done))))) (.eff 7 [0, 2] (.eff 5 [0, 2] (.eff 6 [] (.eff 8 [] .done)))))) (.both (.eff 5 [0, 2] (.both (.eff 4 [] (.both (.eff 6 [] (.eff 7 [0, 2] (.eff 8 [] .done))) (.eff 7 [0, 2] (.eff 6 [] (.eff 8 [] .done))))) (.eff 7 [0, 2] (.eff 4 [] (.eff 6 [] (.eff 8 [] .done)))))) (.eff 7 [0, 2] (.both (.eff 4 [] (.eff 5 [0, 2] (.eff 6 [] (.eff 8 [] .done)))) (.eff 5 [0, 2] (.eff 4 [] (.eff 6 [] (.eff 8 [] .done))))))))) (.both (.eff 5 [0, 2] (.both (.eff 3 [0, 2] (.both (.eff 4 [] (.both (.eff 6 [] (.eff 7 [0, 2] (.eff 8 [] .done))) (.eff 7 [0, 2] (.eff 6 [] (.eff 8 [] .done))))) (.eff 7 [0, 2] (.eff 4 [] (.eff 6 [] (.eff 8 [] .done)))))) (.eff 7 [0, 2] (.eff 3 [0, 2] (.eff 4 [] (.eff 6 [] (.eff 8 [] .done))))))) (.eff 7 [0, 2] (.both (.eff 3 [0, 2] (.both (.eff 4 [] (.eff 5 [0, 2] (.eff 6 [] (.eff 8 [] .done)))) (.eff 5 [0, 2] (.eff 4 [] (.eff 6 [] (.eff 8 [] .done)))))) (.eff 5 [0, 2] (.eff 3 [0, 2] (.eff 4 [] (.eff 6 [] (.eff 8 [] .done)))))))))) (.both (.eff 3 [0, 2] (.both (.eff 1 [2] (.both (.eff 4 [] (.both (.eff 5 [0, 2] (.both (.eff 6 [] (.eff 7 [0, 2] (.eff 8 [] .done))) (.eff 7 [0, 2] (.eff 6 [] (.eff 8 [] .done))))) (.eff 7 [0, 2] (.eff 5 [0, 2] (.eff 6 [] (.eff 8 [] .done)))))) (.both (.eff 5 [0, 2] (.both (.eff 4 [] (.both (.eff 6 [] (.eff 7 [0, 2] (.eff 8 [] .done))) (.eff 7 [0, 2] (.eff 6 [] (.eff 8 [] .done))))) (.eff 7 [0, 2] (.eff 4 [] (.eff 6 [] (.eff 8 [] .done)))))) (.eff 7 [0, 2] (.both (.eff 4 [] (.eff 5 [0, 2] (.eff 6 [] (.eff 8 [] .done)))) (.eff 5 [0, 2] (.eff 4 [] (.eff 6 [] (.eff 8 [] .done))))))))) (.both (.eff 5 [0, 2] (.both (.eff 1 [2] (.both (.eff 4 [] (.both (.eff 6 [] (.eff 7 [0, 2] (.eff 8 [] .done))) (.eff 7 [0, 2] (.eff 6 [] (.eff 8 [] .done))))) (.eff 7 [0, 2] (.eff 4 [] (.eff 6 [] (.eff 8 [] .done)))))) (.eff 7 [0, 2] (.eff 1 [2] (.eff 4 [] (.eff 6 [] (.eff 8 [] .done))))))) (.eff 7 [0, 2] (.both (.eff 1 [2] (.both (.eff 4 [] (.eff 5 [0, 2] (.eff 6 [] (.eff 8 [] .done)))) (.eff 5 [0, 2] (.eff 4 [] (.eff 6 [] (.eff 8 [] .done)))))) (.eff 5 [0, 2] (.eff 1 [2] (.eff 4 [] (.eff 6 [] (.eff 8 [] .done)))))))))) (.both (.eff 5 [0, 2] (.both (.eff 1 [2] (.both (.eff 3 [0, 2] (.both (.eff 4 [] (.both (.eff 6 [] (.eff 7 [0, 2] (.eff 8 [] .done))) (.eff 7 [0, 2] (.eff 6 [] (.eff 8 [] .done))))) (.eff 7 [0, 2] (.eff 4 [] (.eff 6 [] (.eff 8 [] .done)))))) (.eff 7 [0, 2] (.eff 3 [0, 2] (.eff 4 [] (.eff 6 [] (.eff 8 [] .done))))))) (.both (.eff 3 [0, 2] (.both (.eff 1 [2] (.both (.eff 4 [] (.both (.eff 6 [] (.eff 7 [0, 2] (.eff 8 [] .done))) (.eff 7 [0, 2] (.eff 6 [] (.eff 8 [] .done))))) (.eff 7 [0, 2] (.eff 4 [] (.eff 6 [] (.eff 8 [] .done)))))) (.eff 7 [0, 2] (.eff 1 [2] (.eff 4 [] (.eff 6 [] (.eff 8 [] .done))))))) (.eff 7 [0, 2] (.both (.eff 1 [2] (.eff 3 [0, 2] (.eff 4 [] (.eff 6 [] (.eff 8 [] .done))))) (.eff 3 [0, 2] (.eff 1 [2] (.eff 4 [] (.eff 6 [] (.eff 8 [] .done)))))))))) (.eff 7 [0, 2] (.both (.eff 1 [2] (.both (.eff 3 [0, 2] (.both (.eff 4 [] (.eff 5 [0, 2] (.eff 6 [] (.eff 8 [] .done)))) (.eff 5 [0, 2] (.eff 4 [] (.eff 6 [] (.eff 8 [] .done)))))) (.eff 5 [0, 2] (.eff 3 [0, 2] (.eff 4 [] (.eff 6 [] (.eff 8 [] .done))))))) (.both (.eff 3 [0, 2] (.both (.eff 1 [2] (.both (.eff 4 [] (.eff 5 [0, 2] (.eff 6 [] (.eff 8 [] .done)))) (.eff 5 [0, 2] (.eff 4 [] (.eff 6 [] (.eff 8 [] .done)))))) (.eff 5 [0, 2] (.eff 1 [2] (.eff 4 [] (.eff 6 [] (.eff 8 [] .done))))))) (.eff 5 [0, 2] (.both (.eff 1 [2] (.eff 3 [0, 2] (.eff 4 [] (.eff 6 [] (.eff 8 [] .done))))) (.eff 3 [0, 2] (.eff 1 [2] (.eff 4 [] (.eff 6 [] (.eff 8 [] .done))))))))))))))))]
def kp30 : List (Nat × List Nat) := [(0, [0]), (1, [1, 2]), (2, [1, 2]), (3, [1, 2, 3]), (4, [1, 2, 3]), (5, [1, 2, 3]), (6, [1, 2, 3]), (7, [2, 3]), (8, [1, 2]), (9, [1, 2]), (10, [1, 2]), (11, [1, 2]), (12, [1, 2, 4]), (13, [1, 2, 4]), (14, [2, 4]), (15, [1, 2]), (16, [1, 2, 5]), (17, [1, 2, 5]), (18, [2, 5])]
noncomputable def s30 : SCode := toS (planAt pl30) (keepAt kp30) (Tryz.f30.body.getD .skip)
theorem fn30 : FnIs Tryz.prog 30 73 [.cell 2 44] s30 := FnIs.mk' (planAt pl30) (keepAt kp30) (by kernel_rfl)
def pl31 : List (Nat × Plan) := []
def kp31 : List (Nat × List Nat) := [(0, [0, 1]), (1, [0])]
noncomputable def s31 : SCode := toS (planAt pl31) (keepAt kp31) (Tryz.f31.body.getD .skip)
theorem fn31 : FnIs Tryz.prog 31 11 [] s31 := FnIs.mk' (planAt pl31) (keepAt kp31) (by kernel_rfl)
def pl36 : List (Nat × Plan) := []
def kp36 : List (Nat × List Nat) := [(0, [0]), (1, [0]), (2, [3, 4])]
noncomputable def s36 : SCode := toS (planAt pl36) (keepAt kp36) (Tryz.f36.body.getD .skip)
theorem fn36 : FnIs Tryz.prog 36 14 [.tmp 2] s36 := FnIs.mk' (planAt pl36) (keepAt kp36) (by kernel_rfl)
def pl37 : List (Nat × Plan) := [(1, (.fl 0 (.fl 1 (.fl 2 (.fl 3 (.fl 4 (.fl 5 (.fl 6 (.fl 7 (.fl 8 (.fl 9 (.fl 10 (.fl 11 (.fl 12 (.fl 13 (.fl 14 (.fl 15 (.fl 16 (.fl 17 .done)))))))))))))))))))]
def kp37 : List (Nat × List Nat) := [(0, [0]), (1, [0])]
noncomputable def s37 : SCode := toS (planAt pl37) (keepAt kp37) (Tryz.f37.body.getD .skip)
theorem fn37 : FnIs Tryz.prog 37 20 [.tmp 2] s37 := FnIs.mk' (planAt pl37) (keepAt kp37) (by kernel_rfl)
def pl38 : List (Nat × Plan) := []
def kp38 : List (Nat × List Nat) := [(0, [0, 1]), (1, [0, 1])]
noncomputable def s38 : SCode := toS (planAt pl38) (keepAt kp38) (Tryz.f38.body.getD .skip)
theorem fn38 : FnIs Tryz.prog 38 13 [] s38 := FnIs.mk' (planAt pl38) (keepAt kp38) (by kernel_rfl)
def pl39 : List (Nat × Plan) := [(13, (.fl 0 (.fl 1 (.fl 2 (.eff 3 [1] (.eff 4 [1] (.eff 5 [] (.fl 6 (.eff 7 [] .done))))))))), (15, (.fl 0 (.fl 1 (.fl 2 (.eff 3 [1] (.eff 4 [1] (.eff 5 [] (.fl 6 (.eff 7 [] .done))))))))), (17, (.fl 0 (.fl 1 (.fl 2 (.eff 3 [1] (.eff 4 [1] (.eff 5 [] (.fl 6 (.eff 7 [] .done))))))))), (22, (.fl 0 (.fl 1 (.fl 2 (.eff 3 [1] (.eff 4 [1] (.eff 5 [] (.fl 6 (.eff 7 [] .done))))))))), (5, (.fl 0 (.fl 1 (.fl 2 (.eff 3 [1] (.eff 4 [1] (.eff 5 [] (.fl 6 (.eff 7 [] .done)))))))))]
def kp39 : List (Nat × List Nat) := [(0, [0]), (1, [0, 2]), (2, [0, 2, 3]), (3, [0, 2, 3]), (4, [0, 2, 3]), (5, [0, 2, 3]), (6, [0, 2, 3]), (7, [0, 2, 3]), (8, [0, 2, 3]), (9, [0, 2, 3]), (10, [0, 2, 3]), (11, [0, 2, 3]), (12, [0, 2, 3]), (13, [0, 2, 3]), (14, [0, 2, 3]), (15, [0, 2, 3]), (16, [0, 2, 3]), (17, [0, 2, 3]), (18, [0, 2, 3]), (19, [0, 2, 3]), (20, [0, 2, 3]), (21, [0, 2, 3]), (22, [0, 2, 3]), (23, [0, 2, 3]), (24, [0, 2, 3]), (25, [0, 2, 3]), (26, [0, 2, 3]), (27, [0, 2, 3]), (28, [0, 2, 3, 4]), (29, [0, 2, 3, 4]), (30, [0, 2, 3, 4]), (31, [0, 2, 3]), (32, [0, 2, 3]), (33, [0, 2, 3]), (34, [2, 3]), (35, [0, 2, 3]), (36, [2, 3]), (37, [0, 2, 3]), (38, [2, 3]), (39, [0, 2, 3]), (40, [2, 3]), (41, [2, 3])]
noncomputable def s39 : SCode := toS (planAt pl39) (keepAt kp39) (Tryz.f39.body.getD .skip)
theorem fn39 : FnIs Tryz.prog 39 158 [.cell 2 44] s39 := FnIs.mk' (planAt pl39) (keepAt kp39) (by kernel_rfl)
def pl40 : List (Nat × Plan) := []
def kp40 : List (Nat × List Nat) := [(0, [0, 1]), (1, [0])]
noncomputable def s40 : SCode := toS (planAt pl40) (keepAt kp40) (Tryz.f40.body.getD .skip)
theorem fn40 : FnIs Tryz.prog 40 17 [] s40 := FnIs.mk' (planAt pl40) (keepAt kp40) (by kernel_rfl)
def pl41 : List (Nat × Plan) := [(1, (.fl 0 (.fl 1 (.fl 2 (.fl 3 (.fl 4 (.fl 5 (.fl 6 (.fl 7 (.fl 8 (.fl 9 (.fl 10 (.fl 11 (.fl 12 (.fl 13 (.fl 14 (.fl 15 (.fl 16 .done))))))))))))))))))]
def kp41 : List (Nat × List Nat) := [(0, [0]), (1, [0]), (2, [0]), (3, [0])]
noncomputable def s41 : SCode := toS (planAt pl41) (keepAt kp41) (Tryz.f41.body.getD .skip)
theorem fn41 : FnIs Tryz.prog 41 27 [.tmp 2] s41 := FnIs.mk' (planAt pl41) (keepAt kp41) (by kernel_rfl)
def pl42 : List (Nat × Plan) := []
def kp42 : List (Nat × List Nat) := [(0, [0, 1]), (1, [0, 1]), (2, []), (3, [0, 1]), (4, [0, 1, 5]), (5, [1, 5, 14, 15, 16]), (6, [1, 5, 14, 15, 16]), (7, [1, 5, 6, 7, 14, 15, 16]), (8, [1, 5, 14, 15, 16]), (9, [5])]
noncomputable def s42 : SCode := toS (planAt pl42) (keepAt kp42) (Tryz.f42.body.getD .skip)
theorem fn42 : FnIs Tryz.prog 42 32 [.tmp 4] s42 := FnIs.mk' (planAt pl42) (keepAt kp42) (by kernel_rfl)
def pl43 : List (Nat × Plan) := []
def kp43 : List (Nat × List Nat) := [(0, [0]), (1, [0])]
noncomputable def s43 : SCode := toS (planAt pl43) (keepAt kp43) (Tryz.f43.body.getD .skip)
theorem fn43 : FnIs Tryz.prog 43 4 [.tmp 2] s43 := FnIs.mk' (planAt pl43) (keepAt kp43) (by kernel_rfl)
def pl44 : List (Nat × Plan) := [(5, (.fl 0 (.fl 1 (.fl 2 (.fl 3 (.fl 4 (.fl 5 (.eff 6 [3] (.fl 7 (.fl 8 (.eff 9 [] .done)))))))))))]
def kp44 : List (Nat × List Nat) := [(0, [0]), (1, [0]), (2, [0, 3]), (3, [3, 9, 10, 11]), (4, [3, 9, 10, 11]), (5, [3, 4, 5, 9, 10, 11]), (6, [3, 9, 10, 11]), (7, [3])]
noncomputable def s44 : SCode := toS (planAt pl44) (keepAt kp44) (Tryz.f44.body.getD .skip)
theorem fn44 : FnIs Tryz.prog 44 28 [.tmp 2] s44 := FnIs.mk' (planAt pl44) (keepAt kp44) (by kernel_rfl)
def pl45 : List (Nat × Plan) := []
def kp45 : List (Nat × List Nat) := [(0, [0, 1]), (1, [0, 1]), (2, []), (3, [0, 1]), (4, [0, 1, 5]), (5, [1, 5, 14, 15, 16]), (6, [1, 5, 14, 15, 16]), (7, [1, 5, 6, 7, 14, 15, 16]), (8, [1, 5, 14, 15, 16]), (9, [5])]
noncomputable def s45 : SCode := toS (planAt pl45) (keepAt kp45) (Tryz.f45.body.getD .skip)
theorem fn45 : FnIs Tryz.prog 45 32 [.tmp 4] s45 := FnIs.mk' (planAt pl45) (keepAt kp45) (by kernel_rfl)
def pl46 : List (Nat × Plan) := []
def kp46 : List (Nat × List Nat) := [(0, [0, 1]), (1, [0, 1]), (2, []), (3, [0, 1]), (4, [0, 1, 5]), (5, [1, 5, 14, 15, 16]), (6, [1, 5, 14, 15, 16]), (7, [1, 5, 6, 7, 14, 15, 16]), (8, [1, 5, 14, 15, 16]), (9, [5])]
noncomputable def s46 : SCode := toS (planAt pl46) (keepAt kp46) (Tryz.f46.body.getD .skip)
theorem fn46 : FnIs Tryz.prog 46 32 [.tmp 4] s46 := FnIs.mk' (planAt pl46) (keepAt kp46) (by kernel_rfl)
def pl47 : List (Nat × Plan) := []
def kp47 : List (Nat × List Nat) := [(0, [0]), (1, [0]), (2, []), (3, [])]
noncomputable def s47 : SCode := toS (planAt pl47) (keepAt kp47) (Tryz.f47.body.getD .skip)
theorem fn47 : FnIs Tryz.prog 47 4 [.tmp 2] s47 := FnIs.mk' (planAt pl47) (keepAt kp47) (by kernel_rfl)
def pl48 : List (Nat × Plan) := []
def kp48 : List (Nat × List Nat) := [(0, [0]), (1, [0]), (2, [0, 3]), (3, []), (4, [0, 3])]
noncomputable def s48 : SCode := toS (planAt pl48) (keepAt kp48) (Tryz.f48.body.getD .skip)
theorem fn48 : FnIs Tryz.prog 48 14 [.tmp 2] s48 := FnIs.mk' (planAt pl48) (keepAt kp48) (by kernel_rfl)
def pl49 : List (Nat × Plan) := []
def kp49 : List (Nat × List Nat) := [(0, [0, 1]), (1, [0, 1]), (2, []), (3, [0, 1]), (4, [0, 1, 5]), (5, [1, 5, 14, 15, 16]), (6, [1, 5, 14, 15, 16]), (7, [1, 5, 6, 7, 14, 15, 16]), (8, [1, 5, 14, 15, 16]), (9, [5])]
noncomputable def s49 : SCode := toS (planAt pl49) (keepAt kp49) (Tryz.f49.body.getD .skip)
theorem fn49 : FnIs Tryz.prog 49 32 [.tmp 4] s49 := FnIs.mk' (planAt pl49) (keepAt kp49) (by kernel_rfl)
def pl50 : List (Nat × Plan) := [(9, (.fl 0 (.fl 1 (.fl 4 (.fl 5 (.both (.eff 2 [5] (.both (.eff 3 [5] (.eff 6 [] (.eff 7 [] (.eff 8 [] (.eff 9 [] .done))))) (.eff 6 [] (.eff 3 [5] (.eff 7 [] (.eff 8 [] (.eff 9 [] .done))))))) (.eff 6 [] (.eff 2 [5] (.eff 3 [5] (.eff 7 [] (.eff 8 [] (.eff 9 [] .done))))))))))))]
def kp50 : List (Nat × List Nat) := [(0, [0]), (1, [0]), (2, [0, 5, 6]), (3, [0, 5, 6, 7]), (4, [0, 5, 6, 7, 8]), (5, [0, 5, 6, 7, 8]), (6, [0, 5, 6, 7, 8]), (7, [0, 5, 6, 7, 8, 10, 11]), (8, [5, 6]), (9, [0, 5, 6, 7, 8, 10]), (10, [0, 5, 6, 7, 8, 10]), (11, [0, 5, 6, 7, 8, 9]), (12, [0, 5, 6, 8, 9]), (13, [0, 5, 6, 7, 8]), (14, [0, 5, 6, 7, 8, 9]), (15, [0, 5, 6, 7, 8]), (16, [0, 5, 6, 7, 8, 9]), (17, [0, 5, 6, 8]), (18, [0, 5, 6, 7, 8]), (19, [5, 6])]
noncomputable def s50 : SCode := toS (planAt pl50) (keepAt kp50) (Tryz.f50.body.getD .skip)
theorem fn50 : FnIs Tryz.prog 50 74 [.tmp 2, .tmp 3, .tmp 4] s50 := FnIs.mk' (planAt pl50) (keepAt kp50) (by kernel_rfl)
def pl53 : List (Nat × Plan) := []
def kp53 : List (Nat × List Nat) := [(0, [0, 1]), (1, [2, 3, 4])]
noncomputable def s53 : SCode := toS (planAt pl53) (keepAt kp53) (Tryz.f53.body.getD .skip)
theorem fn53 : FnIs Tryz.prog 53 8 [.cell 4 42] s53 := FnIs.mk' (planAt pl53) (keepAt kp53) (by kernel_rfl)
def pl54 : List (Nat × Plan) := []
def kp54 : List (Nat × List Nat) := [(0, [0, 1]), (1, [1, 2]), (2, [1, 2, 5]), (3, [1, 2, 5, 13, 14, 15]), (4, [1, 2, 5, 13, 14, 15]), (5, [1, 2, 5, 6, 7, 13, 14, 15]), (6, [1, 2, 5, 13, 14, 15]), (7, [1, 5])]
noncomputable def s54 : SCode := toS (planAt pl54) (keepAt kp54) (Tryz.f54.body.getD .skip)
theorem fn54 : FnIs Tryz.prog 54 31 [.tmp 4] s54 := FnIs.mk' (planAt pl54) (keepAt kp54) (by kernel_rfl)
def pl55 : List (Nat × Plan) := [(3, (.fl 0 (.fl 1 (.fl 2 (.fl 3 (.fl 4 (.fl 5 (.fl 6 (.eff 7 [] (.fl 8 .done))))))))))]
def kp55 : List (Nat × List Nat) := [(0, [0, 1]), (1, [1, 2]), (2, []), (3, [1, 2])]
noncomputable def s55 : SCode := toS (planAt pl55) (keepAt kp55) (Tryz.f55.body.getD .skip)
theorem fn55 : FnIs Tryz.prog 55 18 [.tmp 4] s55 := FnIs.mk' (planAt pl55) (keepAt kp55) (by kernel_rfl)
def pl59 : List (Nat × Plan) := []
def kp59 : List (Nat × List Nat) := [(0, [0, 1]), (1, [2, 3, 4]), (2, [2, 3, 4]), (3, [2, 3, 4, 5]), (4, [2, 3, 4, 5, 13]), (5, [2, 4, 5]), (6, [4, 5]), (7, [2, 3, 4, 5, 13]), (8, [2, 4, 5]), (9, [4, 5]), (10, [2, 3, 4]), (11, [2, 3, 4, 6])]
noncomputable def s59 : SCode := toS (planAt pl59) (keepAt kp59) (Tryz.f59.body.getD .skip)
theorem fn59 : FnIs Tryz.prog 59 45 [.cell 4 39] s59 := FnIs.mk' (planAt pl59) (keepAt kp59) (by kernel_rfl)
def pl63 : List (Nat × Plan) := []
def kp63 : List (Nat × List Nat) := [(0, [0, 1]), (1, [2, 3, 4]), (2, [2, 3, 4]), (3, [2, 4]), (4, [2, 3, 4]), (5, [4]), (6, [2, 3, 4]), (7, [2, 3, 4, 5])]
noncomputable def s63 : SCode := toS (planAt pl63) (keepAt kp63) (Tryz.f63.body.getD .skip)
theorem fn63 : FnIs Tryz.prog 63 27 [.cell 4 63] s63 := FnIs.mk' (planAt pl63) (keepAt kp63) (by kernel_rfl)
def pl65 : List (Nat × Plan) := [(2, (.fl 0 (.fl 1 (.fl 2 .done)))), (6, (.fl 0 (.fl 1 (.fl 2 .done))))]
def kp65 : List (Nat × List Nat) := [(0, [0]), (1, [0]), (2, []), (3, [0]), (4, [0, 4]), (5, [4, 5]), (6, []), (7, [4])]
noncomputable def s65 : SCode := toS (planAt pl65) (keepAt kp65) (Tryz.f65.body.getD .skip)
theorem fn65 : FnIs Tryz.prog 65 17 [.tmp 2, .tmp 3] s65 := FnIs.mk' (planAt pl65) (keepAt kp65) (by kernel_rfl)
def pl66 : List (Nat × Plan) := [(3, (.fl 0 (.fl 1 (.fl 2 (.eff 3 [2] (.eff 4 [] .done))))))]
def kp66 : List (Nat × List Nat) := [(0, [0, 1]), (1, [0, 1, 2, 3]), (2, [0, 1, 2]), (3, [0, 1, 2, 4])]
noncomputable def s66 : SCode := toS (planAt pl66) (keepAt kp66) (Tryz.f66.body.getD .skip)
theorem fn66 : FnIs Tryz.prog 66 14 [] s66 := FnIs.mk' (planAt pl66) (keepAt kp66) (by kernel_rfl)
def pl67 : List (Nat × Plan) := []
def kp67 : List (Nat × List Nat) := [(0, [0, 1]), (1, [0, 1]), (2, [0]), (3, []), (4, [])]
noncomputable def s67 : SCode := toS (planAt pl67) (keepAt kp67) (Tryz.f67.body.getD .skip)
theorem fn67 : FnIs Tryz.prog 67 15 [.tmp 4] s67 := FnIs.mk' (planAt pl67) (keepAt kp67) (by kernel_rfl)
def pl68 : List (Nat × Plan) := []
def kp68 : List (Nat × List Nat) := [(0, [0]), (1, [0]), (2, [0, 3]), (3, [0, 3]), (4, [0, 3]), (5, [3])]
noncomputable def s68 : SCode := toS (planAt pl68) (keepAt kp68) (Tryz.f68.body.getD .skip)
theorem fn68 : FnIs Tryz.prog 68 26 [.tmp 2] s68 := FnIs.mk' (planAt pl68) (keepAt kp68) (by kernel_rfl)
def pl69 : List (Nat × Plan) := [(4, (.fl 0 (.fl 1 (.fl 2 (.fl 3 (.fl 4 (.fl 5 (.fl 6 (.fl 7 (.fl 8 (.fl 9 (.fl 10 (.fl 11 (.fl 12 (.fl 13 (.fl 14 .done))))))))))))))))]
def kp69 : List (Nat × List Nat) := [(0, [0, 1]), (1, [0, 1]), (2, []), (3, [0, 1]), (4, [0, 1, 5]), (5, [0, 1, 5]), (6, [0, 1, 5]), (7, [0, 1, 5]), (8, [5]), (9, [0, 1, 5])]
noncomputable def s69 : SCode := toS (planAt pl69) (keepAt kp69) (Tryz.f69.body.getD .skip)
theorem fn69 : FnIs Tryz.prog 69 37 [.tmp 4] s69 := FnIs.mk' (planAt pl69) (keepAt kp69) (by kernel_rfl)
def pl70 : List (Nat × Plan) := []
def kp70 : List (Nat × List Nat) := [(0, [0]), (1, [0]), (2, [0, 3]), (3, [0, 3]), (4, [0, 3]), (5, [3])]
noncomputable def s70 : SCode := toS (planAt pl70) (keepAt kp70) (Tryz.f70.body.getD .skip)
theorem fn70 : FnIs Tryz.prog 70 21 [.tmp 2] s70 := FnIs.mk' (planAt pl70) (keepAt kp70) (by kernel_rfl)
def pl71 : List (Nat × Plan) := []
def kp71 : List (Nat × List Nat) := [(0, [0]), (1, [1, 2]), (2, [1, 2, 3])]
noncomputable def s71 : SCode := toS (planAt pl71) (keepAt kp71) (Tryz.f71.body.getD .skip)
theorem fn71 : FnIs Tryz.prog 71 11 [.cell 2 120] s71 := FnIs.mk' (planAt pl71) (keepAt kp71) (by kernel_rfl)
def pl72 : List (Nat × Plan) := [(4, (.fl 0 (.fl 1 (.fl 2 (.fl 3 (.fl 4 (.fl 5 (.fl 6 (.fl 7 (.fl 8 (.fl 9 (.fl 10 (.fl 11 (.fl 12 (.fl 13 (.fl 14 .done))))))))))))))))]
def kp72 : List (Nat × List Nat) := [(0, [0, 1]), (1, [0, 1]), (2, []), (3, [0, 1]), (4, [0, 1, 5]), (5, [0, 1, 5]), (6, [0, 1, 5]), (7, [0, 1, 5]), (8, [5]), (9, [0, 1, 5])]
noncomputable def s72 : SCode := toS (planAt pl72) (keepAt kp72) (Tryz.f72.body.getD .skip)
theorem fn72 : FnIs Tryz.prog 72 37 [.tmp 4] s72 := FnIs.mk' (planAt pl72) (keepAt kp72) (by kernel_rfl)
def pl73 : List (Nat × Plan) := []
def kp73 : List (Nat × List Nat) := [(0, [0]), (1, [0, 1])]
noncomputable def s73 : SCode := toS (planAt pl73) (keepAt kp73) (Tryz.f73.body.getD .skip)
theorem fn73 : FnIs Tryz.prog 73 4 [.cell 1 63] s73 := FnIs.mk' (planAt pl73) (keepAt kp73) (by kernel_rfl)
def pl74 : List (Nat × Plan) := [(4, (.fl 0 (.fl 1 (.fl 2 (.fl 3 (.fl 4 (.fl 5 (.fl 6 (.fl 7 (.fl 8 (.fl 9 (.fl 10 (.fl 11 (.fl 12 (.fl 13 (.fl 14 .done))))))))))))))))]
def kp74 : List (Nat × List Nat) := [(0, [0, 1]), (1, [0, 1]), (2, []), (3, [0, 1]), (4, [0, 1, 5]), (5, [0, 1, 5]), (6, [0, 1, 5]), (7, [0, 1, 5]), (8, [5]), (9, [0, 1, 5])]
noncomputable def s74 : SCode := toS (planAt pl74) (keepAt kp74) (Tryz.f74.body.getD .skip)
theorem fn74 : FnIs Tryz.prog 74 37 [.tmp 4] s74 := FnIs.mk' (planAt pl74) (keepAt kp74) (by kernel_rfl)
def pl75 : List (Nat × Plan) := []
def kp75 : List (Nat × List Nat) := [(0, [0]), (1, [0]), (2, []), (3, [0]), (4, [])]
noncomputable def s75 : SCode := toS (planAt pl75) (keepAt kp75) (Tryz.f75.body.getD .skip)
theorem fn75 : FnIs Tryz.prog 75 7 [.tmp 2] s75 := FnIs.mk' (planAt pl75) (keepAt kp75) (by kernel_rfl)
def pl76 : List (Nat × Plan) := []
def kp76 : List (Nat × List Nat) := [(0, [0]), (1, [0]), (2, [0, 5, 6]), (3, [0, 5, 6]), (4, [0, 3, 4, 5, 6]), (5, [3]), (6, [0, 5, 6]), (7, [0]), (8, [])]
noncomputable def s76 : SCode := toS (planAt pl76) (keepAt kp76) (Tryz.f76.body.getD .skip)
theorem fn76 : FnIs Tryz.prog 76 19 [.tmp 2] s76 := FnIs.mk' (planAt pl76) (keepAt kp76) (by kernel_rfl)
def pl77 : List (Nat × Plan) := [(4, (.fl 0 (.fl 1 (.fl 2 (.fl 3 (.fl 4 (.fl 5 (.fl 6 (.fl 7 (.fl 8 (.fl 9 (.fl 10 (.fl 11 (.fl 12 (.fl 13 (.fl 14 .done))))))))))))))))]
def kp77 : List (Nat × List Nat) := [(0, [0, 1]), (1, [0, 1]), (2, []), (3, [0, 1]), (4, [0, 1, 5]), (5, [0, 1, 5]), (6, [0, 1, 5]), (7, [0, 1, 5]), (8, [5]), (9, [0, 1, 5])]
noncomputable def s77 : SCode := toS (planAt pl77) (keepAt kp77) (Tryz.f77.body.getD .skip)
theorem fn77 : FnIs Tryz.prog 77 37 [.tmp 4] s77 := FnIs.mk' (planAt pl77) (keepAt kp77) (by kernel_rfl)
def pl78 : List (Nat × Plan) := []
def kp78 : List (Nat × List Nat) := [(0, [0]), (1, [0, 1])]
noncomputable def s78 : SCode := toS (planAt pl78) (keepAt kp78) (Tryz.f78.body.getD .skip)
theorem fn78 : FnIs Tryz.prog 78 4 [.cell 1 39] s78 := FnIs.mk' (planAt pl78) (keepAt kp78) (by kernel_rfl)
def pl85 : List (Nat × Plan) := []
def kp85 : List (Nat × List Nat) := [(0, [0, 1]), (1, [0, 1]), (2, [0]), (3, []), (4, [])]
noncomputable def s85 : SCode := toS (planAt pl85) (keepAt kp85) (Tryz.f85.body.getD .skip)
theorem fn85 : FnIs Tryz.prog 85 15 [.tmp 4] s85 := FnIs.mk' (planAt pl85) (keepAt kp85) (by kernel_rfl)
def pl86 : List (Nat × Plan) := [(1, (.fl 0 (.eff 1 [] (.fl 2 (.fl 3 (.fl 4 (.fl 5 (.fl 6 (.fl 7 (.fl 8 (.fl 9 (.fl 10 (.fl 11 (.fl 12 (.fl 13 (.fl 14 (.fl 15 (.fl 16 (.fl 17 (.fl 18 (.fl 19 (.fl 20 (.fl 21 (.fl 22 (.fl 23 (.fl 24 (.fl 25 (.fl 26 (.fl 27 (.fl 28 (.fl 29 (.fl 30 (.fl 31 (.eff 32 [] (.fl 33 (.fl 34 .done)))))))))))))))))))))))))))))))))))), (5, (.fl 0 (.fl 1 (.fl 2 (.fl 3 (.fl 4 (.fl 5 (.fl 6 (.fl 7 (.fl 8 (.fl 9 (.fl 10 (.fl 11 (.fl 12 .done))))))))))))))]
def kp86 : List (Nat × List Nat) := [(0, [0, 1]), (1, [0, 1]), (2, [0]), (3, []), (4, [0]), (5, [0])]
noncomputable def s86 : SCode := toS (planAt pl86) (keepAt kp86) (Tryz.f86.body.getD .skip)
theorem fn86 : FnIs Tryz.prog 86 61 [.tmp 4] s86 := FnIs.mk' (planAt pl86) (keepAt kp86) (by kernel_rfl)
def pl87 : List (Nat × Plan) := []
def kp87 : List (Nat × List Nat) := [(0, [0, 1]), (1, [0, 1]), (2, [0, 1]), (3, []), (4, [0, 1]), (5, []), (6, [0, 1]), (7, [0, 1]), (8, [0]), (9, [0])]
noncomputable def s87 : SCode := toS (planAt pl87) (keepAt kp87) (Tryz.f87.body.getD .skip)
theorem fn87 : FnIs Tryz.prog 87 35 [.tmp 4] s87 := FnIs.mk' (planAt pl87) (keepAt kp87) (by kernel_rfl)
def pl88 : List (Nat × Plan) := [(3, (.fl 0 (.fl 1 (.fl 2 (.eff 3 [1] (.eff 4 [1] (.eff 5 [] (.fl 6 (.eff 7 [] .done)))))))))]
def kp88 : List (Nat × List Nat) := [(0, [0]), (1, [0, 2]), (2, [0, 2, 3]), (3, [0, 2, 3]), (4, [2, 3])]
noncomputable def s88 : SCode := toS (planAt pl88) (keepAt kp88) (Tryz.f88.body.getD .skip)
theorem fn88 : FnIs Tryz.prog 88 27 [.cell 2 120] s88 := FnIs.mk' (planAt pl88) (keepAt kp88) (by kernel_rfl)
def pl89 : List (Nat × Plan) := [(2, (.fl 0 (.eff 1 [] (.fl 2 (.fl 3 (.fl 4 (.fl 5 (.fl 6 (.fl 7 (.fl 8 (.fl 9 (.fl 10 (.fl 11 (.fl 12 (.fl 13 (.fl 14 (.fl 15 (.fl 16 .done)))))))))))))))))), (4, (.fl 0 (.fl 1 (.fl 2 (.fl 3 (.fl 4 (.fl 5 (.fl 6 (.fl 7 (.fl 8 (.fl 9 (.fl 10 (.fl 11 (.eff 12 [] (.eff 13 [] .done))))))))))))))), (9, (.fl 0 (.fl 1 (.fl 2 (.fl 3 (.fl 4 (.eff 5 [1] (.eff 6 [1] (.eff 7 [] (.fl 8 (.eff 9 [] .done)))))))))))]
def kp89 : List (Nat × List Nat) := [(0, [0, 1]), (1, [0, 1, 4]), (2, [0, 1, 4]), (3, [0, 4]), (4, [0, 4]), (5, [0, 1, 4]), (6, [4]), (7, [0, 1, 4]), (8, [0, 1, 4, 5]), (9, [0, 1, 4, 5]), (10, [4, 5])]
noncomputable def s89 : SCode := toS (planAt pl89) (keepAt kp89) (Tryz.f89.body.getD .skip)
theorem fn89 : FnIs Tryz.prog 89 74 [.cell 4 63] s89 := FnIs.mk' (planAt pl89) (keepAt kp89) (by kernel_rfl)
def pl90 : List (Nat × Plan) := [(2, (.fl 0 (.eff 1 [] (.fl 2 (.fl 3 (.fl 4 (.fl 5 (.fl 6 (.fl 7 (.fl 8 (.fl 9 (.fl 10 (.fl 11 (.fl 12 (.fl 13 (.fl 14 (.fl 15 (.fl 16 .done)))))))))))))))))), (4, (.fl 0 (.fl 1 (.fl 2 (.fl 3 (.fl 4 (.fl 5 (.fl 6 (.fl 7 (.fl 8 (.fl 9 (.fl 10 (.fl 11 (.eff 12 [] (.eff 13 [] .done))))))))))))))), (5, (.fl 0 (.eff 1 [] (.fl 2 (.fl 3 (.fl 4 (.fl 5 (.fl 6 (.fl 7 (.fl 8 (.fl 9 (.fl 10 (.fl 11 (.fl 12 (.fl 13 (.fl 14 (.fl 15 (.fl 16 .done)))))))))))))))))), (7, (.fl 0 (.fl 1 (.fl 2 (.fl 3 (.fl 4 (.fl 5 (.fl 6 (.fl 7 (.fl 8 (.fl 9 (.fl 10 (.fl 11 (.eff 12 [] (.eff 13 [] .done))))))))))))))), (10, (.fl 0 (.fl 1 (.fl 2 (.fl 3 (.fl 4 (.eff 5 [1] (.eff 6 [1] (.eff 7 [] (.fl 8 (.eff 9 [] .done)))))))))))]
def kp90 : List (Nat × List Nat) := [(0, [0, 1]), (1, [0, 1, 4]), (2, [0, 1, 4]), (3, [0, 4]), (4, [0, 4]), (5, [0, 1, 4]), (6, [0, 4]), (7, [0, 4]), (8, [0, 1, 4]), (9, [0, 1, 4, 5]), (10, [0, 1, 4, 5]), (11, [4, 5])]
noncomputable def s90 : SCode := toS (planAt pl90) (keepAt kp90) (Tryz.f90.body.getD .skip)
theorem fn90 : FnIs Tryz.prog 90 108 [.cell 4 39] s90 := FnIs.mk' (planAt pl90) (keepAt kp90) (by kernel_rfl)
def pl91 : List (Nat × Plan) := []
def kp91 : List (Nat × List Nat) := [(0, [0, 1]), (1, [0, 1, 4]), (2, [0, 1, 4, 5]), (3, [0, 1, 4, 5]), (4, [0, 1, 4, 5, 6]), (5, [0, 1, 4, 5, 6]), (6, [0, 1, 4, 5, 6]), (7, [0, 1, 4, 5, 6]), (8, [0, 1, 4, 5, 6]), (9, [0, 1, 4, 5]), (10, [4, 5]), (11, [4, 5]), (12, [4, 5])]
noncomputable def s91 : SCode := toS (planAt pl91) (keepAt kp91) (Tryz.f91.body.getD .skip)
theorem fn91 : FnIs Tryz.prog 91 50 [.cell 4 42] s91 := FnIs.mk' (planAt pl91) (keepAt kp91) (by kernel_rfl)
def pl93 : List (Nat × Plan) := [(15, (.fl 0 (.fl 1 (.fl 2 (.fl 4 (.fl 6 (.fl 7 (.fl 8 (.fl 9 (.fl 10 (.fl 11 (.fl 12 (.fl 13 (.fl 14 (.fl 15 (.both (.eff 3 [10] (.both (.eff 5 [10] (.eff 16 [] (.fl 17 (.fl 18 (.fl 19 (.eff 20 [] (.fl 21 .done))))))) (.eff 16 [] (.fl 17 (.fl 18 (.fl 19 (.eff 5 [10] (.eff 20 [] (.fl 21 .done))))))))) (.eff 16 [] (.fl 17 (.fl 18 (.fl 19 (.eff 3 [10] (.eff 5 [10] (.eff 20 [] (.fl 21 .done))))))))))))))))))))))))]
def kp93 : List (Nat × List Nat) := [(0, [0, 1]), (1, [0, 1, 4]), (2, [0, 1, 4, 6]), (3, [0, 1, 4, 6, 7]), (4, [0, 1, 4, 6, 7]), (5, [0, 1, 4, 6, 7]), (6, [0, 1, 4, 6, 7]), (7, [0, 1, 4, 6, 7, 8]), (8, [0, 1, 4, 7]), (9, [0, 1, 4, 7, 8]), (10, [0, 1, 4, 6, 7]), (11, [0, 1, 4, 7]), (12, [0, 1, 4, 7]), (13, [0, 1, 4, 7]), (14, [0, 1, 4, 7]), (15, [0, 1, 4, 7, 9, 10]), (16, [0, 1, 4, 6]), (17, [4]), (18, [0, 1, 4, 6]), (19, [0, 1, 4, 6, 119, 120, 121]), (20, [0, 1, 4, 6, 119, 120, 121]), (21, [0, 1, 4, 6, 12, 119, 120, 121]), (22, [0, 1, 4]), (23, [0, 1, 4, 6, 119, 120, 121]), (24, [4])]
noncomputable def s93 : SCode := toS (planAt pl93) (keepAt kp93) (Tryz.f93.body.getD .skip)
theorem fn93 : FnIs Tryz.prog 93 136 [.cell 4 50, .tmp 5] s93 := FnIs.mk' (planAt pl93) (keepAt kp93) (by kernel_rfl)
def pl95 : List (Nat × Plan) := []
def kp95 : List (Nat × List Nat) := [(0, [0, 1, 2, 3]), (1, [0, 1, 2, 3, 8]), (2, [0, 1, 2, 3, 8, 9]), (3, [0, 1, 2, 3, 8, 9]), (4, [1, 8, 9]), (5, [8, 9]), (6, [1, 8, 9])]
noncomputable def s95 : SCode := toS (planAt pl95) (keepAt kp95) (Tryz.f95.body.getD .skip)
theorem fn95 : FnIs Tryz.prog 95 30 [.cell 8 42] s95 := FnIs.mk' (planAt pl95) (keepAt kp95) (by kernel_rfl)
def pl96 : List (Nat × Plan) := []
def kp96 : List (Nat × List Nat) := [(0, [0, 1]), (1, [0, 1, 2])]
noncomputable def s96 : SCode := toS (planAt pl96) (keepAt kp96) (Tryz.f96.body.getD .skip)
theorem fn96 : FnIs Tryz.prog 96 6 [.cell 2 42] s96 := FnIs.mk' (planAt pl96) (keepAt kp96) (by kernel_rfl)
def pl97 : List (Nat × Plan) := []
def kp97 : List (Nat × List Nat) := [(0, [0, 1]), (1, [0, 1, 2])]
noncomputable def s97 : SCode := toS (planAt pl97) (keepAt kp97) (Tryz.f97.body.getD .skip)
theorem fn97 : FnIs Tryz.prog 97 6 [.cell 2 42] s97 := FnIs.mk' (planAt pl97) (keepAt kp97) (by kernel_rfl)
def pl98 : List (Nat × Plan) := [(15, (.fl 0 (.fl 1 (.fl 2 (.fl 3 (.fl 4 (.eff 5 [1] (.eff 6 [] (.eff 7 [] (.eff 8 [] .done)))))))))), (22, (.fl 0 (.fl 1 (.fl 2 (.fl 3 (.eff 4 [0] (.eff 5 [] (.eff 6 [] .done))))))))]
def kp98 : List (Nat × List Nat) := [(0, [0, 1]), (1, [0, 1, 4]), (2, [0, 1, 4]), (3, [4]), (4, [0, 1, 4]), (5, [4]), (6, [0, 1, 4]), (7, [0, 1, 4]), (8, [0, 1, 4]), (9, [0, 1, 4]), (10, [0, 1, 4]), (11, [0, 1, 4]), (12, [0, 1, 4, 5]), (13, [0, 1, 4, 5]), (14, [0, 1, 4, 5, 6]), (15, [0, 1, 4, 5, 6]), (16, [0, 1, 4]), (17, [0, 1, 4]), (18, [0, 4, 7]), (19, [4, 7]), (20, [0, 1, 4]), (21, [0, 1, 4, 8]), (22, [0, 1, 4, 8]), (23, [0, 4, 8]), (24, [0, 4, 8]), (25, [4, 8])]
noncomputable def s98 : SCode := toS (planAt pl98) (keepAt kp98) (Tryz.f98.body.getD .skip)
theorem fn98 : FnIs Tryz.prog 98 91 [.cell 4 42] s98 := FnIs.mk' (planAt pl98) (keepAt kp98) (by kernel_rfl)
def pl99 : List (Nat × Plan) := []
def kp99 : List (Nat × List Nat) := [(0, [0, 1]), (1, [0, 3]), (2, [0, 3, 5]), (3, [5, 6]), (4, [5]), (5, [5])]
noncomputable def s99 : SCode := toS (planAt pl99) (keepAt kp99) (Tryz.f99.body.getD .skip)
theorem fn99 : FnIs Tryz.prog 99 26 [.tmp 4] s99 := FnIs.mk' (planAt pl99) (keepAt kp99) (by kernel_rfl)
def pl101 : List (Nat × Plan) := [(0, (.fl 0 (.fl 1 (.fl 2 (.fl 3 (.fl 4 (.fl 5 (.fl 6 (.fl 7 (.fl 8 (.fl 9 (.fl 10 (.fl 11 (.fl 12 (.fl 13 .done)))))))))))))))]
def kp101 : List (Nat × List Nat) := [(0, [0, 1]), (1, [0])]
noncomputable def s101 : SCode := toS (planAt pl101) (keepAt kp101) (Tryz.f101.body.getD .skip)
theorem fn101 : FnIs Tryz.prog 101 21 [] s101 := FnIs.mk' (planAt pl101) (keepAt kp101) (by kernel_rfl)
def pl102 : List (Nat × Plan) := [(1, (.fl 0 (.fl 1 (.fl 2 (.fl 3 (.fl 4 (.fl 5 (.fl 6 (.fl 7 (.fl 8 (.fl 9 .done))))))))))), (2, (.fl 0 (.fl 1 (.fl 2 (.fl 3 (.fl 4 (.fl 5 (.fl 6 (.fl 7 (.fl 8 (.fl 9 (.eff 10 [] .done))))))))))))]
def kp102 : List (Nat × List Nat) := [(0, [0]), (1, [0, 2]), (2, [0, 2]), (3, [2])]
noncomputable def s102 : SCode := toS (planAt pl102) (keepAt kp102) (Tryz.f102.body.getD .skip)
theorem fn102 : FnIs Tryz.prog 102 24 [.cell 2 50] s102 := FnIs.mk' (planAt pl102) (keepAt kp102) (by kernel_rfl)
def pl103 : List (Nat × Plan) := []
def kp103 : List (Nat × List Nat) := [(0, [0, 1]), (1, [0, 1, 2])]
noncomputable def s103 : SCode := toS (planAt pl103) (keepAt kp103) (Tryz.f103.body.getD .skip)
theorem fn103 : FnIs Tryz.prog 103 7 [.cell 2 39] s103 := FnIs.mk' (planAt pl103) (keepAt kp103) (by kernel_rfl)
def pl106 : List (Nat × Plan) := []
def kp106 : List (Nat × List Nat) := [(0, [0]), (1, [0, 2]), (2, [0, 2, 3]), (3, [2, 3])]
noncomputable def s106 : SCode := toS (planAt pl106) (keepAt kp106) (Tryz.f106.body.getD .skip)
theorem fn106 : FnIs Tryz.prog 106 14 [.cell 2 50] s106 := FnIs.mk' (planAt pl106) (keepAt kp106) (by kernel_rfl)
def pl107 : List (Nat × Plan) := []
def kp107 : List (Nat × List Nat) := [(0, [0, 1]), (1, [0, 1, 2])]
noncomputable def s107 : SCode := toS (planAt pl107) (keepAt kp107) (Tryz.f107.body.getD .skip)
theorem fn107 : FnIs Tryz.prog 107 7 [.cell 2 63] s107 := FnIs.mk' (planAt pl107) (keepAt kp107) (by kernel_rfl)
def pl108 : List (Nat × Plan) := []
def kp108 : List (Nat × List Nat) := [(0, [0, 1]), (1, [0, 1]), (2, [0, 1, 5]), (3, [0, 1, 5]), (4, [0, 1, 5, 6, 7]), (5, []), (6, [0, 1, 5, 6]), (7, [])]
noncomputable def s108 : SCode := toS (planAt pl108) (keepAt kp108) (Tryz.f108.body.getD .skip)
theorem fn108 : FnIs Tryz.prog 108 36 [.tmp 4] s108 := FnIs.mk' (planAt pl108) (keepAt kp108) (by kernel_rfl)
def pl109 : List (Nat × Plan) := []
def kp109 : List (Nat × List Nat) := [(0, [1, 2]), (1, [2, 4]), (2, [])]
noncomputable def s109 : SCode := toS (planAt pl109) (keepAt kp109) (Tryz.f109.body.getD .skip)
theorem fn109 : FnIs Tryz.prog 109 10 [.tmp 5] s109 := FnIs.mk' (planAt pl109) (keepAt kp109) (by kernel_rfl)
def pl110 : List (Nat × Plan) := []
def kp110 : List (Nat × List Nat) := [(0, [0, 1]), (1, [0, 1]), (2, [1, 5])]
noncomputable def s110 : SCode := toS (planAt pl110) (keepAt kp110) (Tryz.f110.body.getD .skip)
theorem fn110 : FnIs Tryz.prog 110 22 [.tmp 4] s110 := FnIs.mk' (planAt pl110) (keepAt kp110) (by kernel_rfl)
def pl111 : List (Nat × Plan) := []
def kp111 : List (Nat × List Nat) := [(0, [0]), (1, [0]), (2, [3]), (3, [3]), (4, [3]), (5, [3]), (6, [3]), (7, [3]), (8, [3]), (9, [3]), (10, [3]), (11, [3]), (12, [3]), (13, [3]), (14, [3]), (15, [3]), (16, [3]), (17, [3]), (18, [3]), (19, [3]), (20, []), (21, [])]
noncomputable def s111 : SCode := toS (planAt pl111) (keepAt kp111) (Tryz.f111.body.getD .skip)
theorem fn111 : FnIs Tryz.prog 111 23 [.tmp 2] s111 := FnIs.mk' (planAt pl111) (keepAt kp111) (by kernel_rfl)
def pl112 : List (Nat × Plan) := []
def kp112 : List (Nat × List Nat) := [(0, [0]), (1, [0, 1])]
noncomputable def s112 : SCode := toS (planAt pl112) (keepAt kp112) (Tryz.f112.body.getD .skip)
theorem fn112 : FnIs Tryz.prog 112 4 [.cell 1 63] s112 := FnIs.mk' (planAt pl112) (keepAt kp112) (by kernel_rfl)
def pl116 : List (Nat × Plan) := []
def kp116 : List (Nat × List Nat) := [(0, [0, 1]), (1, [0, 3]), (2, [0, 3, 5]), (3, [3, 5, 6]), (4, [3]), (5, [3, 5, 6]), (6, [3, 5, 6]), (7, [3, 5, 6]), (8, [3]), (9, [3, 5]), (10, [3]), (11, [3])]
noncomputable def s116 : SCode := toS (planAt pl116) (keepAt kp116) (Tryz.f116.body.getD .skip)
theorem fn116 : FnIs Tryz.prog 116 31 [.tmp 4] s116 := FnIs.mk' (planAt pl116) (keepAt kp116) (by kernel_rfl)
def pl117 : List (Nat × Plan) := [(1, (.fl 0 (.eff 1 [] (.fl 2 (.fl 3 (.fl 4 (.fl 5 (.fl 6 (.fl 7 (.fl 8 (.fl 9 (.fl 10 (.fl 11 (.fl 12 (.fl 13 (.fl 14 (.fl 15 (.fl 16 (.fl 17 (.fl 18 (.fl 19 (.fl 20 (.fl 21 (.fl 22 (.fl 23 (.fl 24 (.fl 25 (.fl 26 (.fl 27 (.fl 28 (.fl 29 (.fl 30 (.fl 31 (.fl 32 (.fl 33 (.fl 34 (.fl 35 (.fl 36 (.fl 37 (.fl 38 (.fl 39 (.fl 40 (.fl 41 (.fl 42 (.fl 43 (.fl 44 (.fl 45 (.fl 46 .done))))))))))))))))))))))))))))))))))))))))))))))))]
def kp117 : List (Nat × List Nat) := [(0, [0, 1]), (1, [0, 1])]
noncomputable def s117 : SCode := toS (planAt pl117) (keepAt kp117) (Tryz.f117.body.getD .skip)
theorem fn117 : FnIs Tryz.prog 117 51 [.tmp 4] s117 := FnIs.mk' (planAt pl117) (keepAt kp117) (by kernel_rfl)
def pl118 : List (Nat × Plan) := []
def kp118 : List (Nat × List Nat) := [(0, [0, 1]), (1, [0])]
noncomputable def s118 : SCode := toS (planAt pl118) (keepAt kp118) (Tryz.f118.body.getD .skip)
theorem fn118 : FnIs Tryz.prog 118 13 [] s118 := FnIs.mk' (planAt pl118) (keepAt kp118) (by kernel_rfl)
def pl119 : List (Nat × Plan) := [(16, (.fl 0 (.fl 1 (.fl 2 (.fl 3 (.eff 4 [0] (.eff 5 [] (.fl 6 (.eff 7 [] .done))))))))), (24, (.fl 0 (.fl 1 (.fl 2 (.fl 3 (.eff 4 [0] (.eff 5 [] (.eff 6 [] .done))))))))]
def kp119 : List (Nat × List Nat) := [(0, [0, 1]), (1, [0, 1, 4]), (2, [0, 1, 4]), (3, [4]), (4, [0, 1, 4]), (5, [4]), (6, [0, 1, 4]), (7, [0, 1, 4]), (8, [0, 1, 4]), (9, [0, 1, 4]), (10, [0, 1, 4]), (11, [0, 1, 4]), (12, [0, 1, 4, 5]), (13, [0, 1, 4, 5, 6]), (14, [0, 1, 4, 5, 6]), (15, [0, 1, 4, 5, 6]), (16, [0, 1, 4, 5, 6]), (17, [4, 5]), (18, [0, 1, 4]), (19, [0, 1, 4]), (20, [0, 4, 7]), (21, [4, 7]), (22, [0, 1, 4]), (23, [0, 1, 4, 8]), (24, [0, 1, 4, 8]), (25, [0, 4, 8]), (26, [0, 4, 8]), (27, [4, 8])]
noncomputable def s119 : SCode := toS (planAt pl119) (keepAt kp119) (Tryz.f119.body.getD .skip)
theorem fn119 : FnIs Tryz.prog 119 86 [.cell 4 42] s119 := FnIs.mk' (planAt pl119) (keepAt kp119) (by kernel_rfl)
def pl121 : List (Nat × Plan) := []
def kp121 : List (Nat × List Nat) := [(0, [0]), (1, [0])]
noncomputable def s121 : SCode := toS (planAt pl121) (keepAt kp121) (Tryz.f121.body.getD .skip)
theorem fn121 : FnIs Tryz.prog 121 21 [.tmp 2] s121 := FnIs.mk' (planAt pl121) (keepAt kp121) (by kernel_rfl)
def pl122 : List (Nat × Plan) := []
def kp122 : List (Nat × List Nat) := [(0, [0]), (1, [0])]
noncomputable def s122 : SCode := toS (planAt pl122) (keepAt kp122) (Tryz.f122.body.getD .skip)
theorem fn122 : FnIs Tryz.prog 122 9 [.tmp 2] s122 := FnIs.mk' (planAt pl122) (keepAt kp122) (by kernel_rfl)
def pl123 : List (Nat × Plan) := []
def kp123 : List (Nat × List Nat) := [(0, [0]), (1, [0]), (2, [0, 4]), (3, [0, 4]), (4, [0, 4]), (5, []), (6, [0, 4]), (7, [0, 4, 5]), (8, [0, 4, 5, 6]), (9, [0, 4, 5, 6]), (10, [0, 4, 5, 6]), (11, [0, 4, 5, 6, 7]), (12, []), (13, [0, 4, 5, 6, 7]), (14, [0, 5]), (15, [5]), (16, [5]), (17, []), (18, [5])]
noncomputable def s123 : SCode := toS (planAt pl123) (keepAt kp123) (Tryz.f123.body.getD .skip)
theorem fn123 : FnIs Tryz.prog 123 77 [.tmp 2, .tmp 3] s123 := FnIs.mk' (planAt pl123) (keepAt kp123) (by kernel_rfl)
def pl125 : List (Nat × Plan) := []
def kp125 : List (Nat × List Nat) := [(0, [0, 1]), (1, [0, 1]), (2, [0, 1]), (3, [0, 1, 12]), (4, [0, 1, 12]), (5, [0, 1, 12]), (6, [0, 1, 12]), (7, [0, 1]), (8, [0, 1, 12]), (9, [0, 1]), (10, [0, 1, 5]), (11, [0]), (12, [0, 1, 5]), (13, [1]), (14, [1])]
noncomputable def s125 : SCode := toS (planAt pl125) (keepAt kp125) (Tryz.f125.body.getD .skip)
theorem fn125 : FnIs Tryz.prog 125 35 [.tmp 4] s125 := FnIs.mk' (planAt pl125) (keepAt kp125) (by kernel_rfl)
def pl126 : List (Nat × Plan) := []
def kp126 : List (Nat × List Nat) := [(0, [0, 1]), (1, [0, 1, 4]), (2, [0, 1, 4, 6]), (3, [0, 1, 4, 6]), (4, [0, 1, 4, 6]), (5, [4, 6, 7]), (6, [4, 6, 7, 8]), (7, [4, 7]), (8, [4, 7, 8]), (9, [0, 1, 4, 6]), (10, [0, 1, 4, 6]), (11, [0, 1, 4]), (12, [0, 1, 4, 6]), (13, [4]), (14, [0, 1, 4, 6]), (15, [0, 1, 4]), (16, [4])]
noncomputable def s126 : SCode := toS (planAt pl126) (keepAt kp126) (Tryz.f126.body.getD .skip)
theorem fn126 : FnIs Tryz.prog 126 60 [.cell 4 50, .tmp 5] s126 := FnIs.mk' (planAt pl126) (keepAt kp126) (by kernel_rfl)
def pl134 : List (Nat × Plan) := []
def kp134 : List (Nat × List Nat) := [(0, [0]), (1, [0])]
noncomputable def s134 : SCode := toS (planAt pl134) (keepAt kp134) (Tryz.f134.body.getD .skip)
theorem fn134 : FnIs Tryz.prog 134 9 [.tmp 2] s134 := FnIs.mk' (planAt pl134) (keepAt kp134) (by kernel_rfl)
def pl135 : List (Nat × Plan) := []
def kp135 : List (Nat × List Nat) := [(0, [0]), (1, [0])]
noncomputable def s135 : SCode := toS (planAt pl135) (keepAt kp135) (Tryz.f135.body.getD .skip)
theorem fn135 : FnIs Tryz.prog 135 13 [.tmp 2] s135 := FnIs.mk' (planAt pl135) (keepAt kp135) (by kernel_rfl)
def pl136 : List (Nat × Plan) := []
def kp136 : List (Nat × List Nat) := [(0, [0, 1, 2]), (1, [0, 1, 2]), (2, [0, 1, 2, 7]), (3, [0, 1, 2, 7]), (4, [1, 7])]
noncomputable def s136 : SCode := toS (planAt pl136) (keepAt kp136) (Tryz.f136.body.getD .skip)
theorem fn136 : FnIs Tryz.prog 136 25 [.tmp 6] s136 := FnIs.mk' (planAt pl136) (keepAt kp136) (by kernel_rfl)
def pl137 : List (Nat × Plan) := []
def kp137 : List (Nat × List Nat) := [(0, [0]), (1, [0])]
noncomputable def s137 : SCode := toS (planAt pl137) (keepAt kp137) (Tryz.f137.body.getD .skip)
theorem fn137 : FnIs Tryz.prog 137 13 [.tmp 2] s137 := FnIs.mk' (planAt pl137) (keepAt kp137) (by kernel_rfl)
def pl138 : List (Nat × Plan) := []
def kp138 : List (Nat × List Nat) := [(0, [0]), (1, [0])]
noncomputable def s138 : SCode := toS (planAt pl138) (keepAt kp138) (Tryz.f138.body.getD .skip)
theorem fn138 : FnIs Tryz.prog 138 9 [.tmp 2] s138 := FnIs.mk' (planAt pl138) (keepAt kp138) (by kernel_rfl)
def pl139 : List (Nat × Plan) := []
def kp139 : List (Nat × List Nat) := [(0, [0, 1]), (1, [0, 1, 4]), (2, [0, 1, 4, 6]), (3, [0, 1, 4]), (4, [0, 1, 4, 6]), (5, [0, 1, 4, 6]), (6, [0, 1, 4, 6, 7]), (7, [0, 1, 4, 6, 7, 8, 9]), (8, [4]), (9, [0, 1, 4, 6, 7, 8]), (10, [4]), (11, [4, 7, 8])]
noncomputable def s139 : SCode := toS (planAt pl139) (keepAt kp139) (Tryz.f139.body.getD .skip)
theorem fn139 : FnIs Tryz.prog 139 59 [.cell 4 50, .tmp 5] s139 := FnIs.mk' (planAt pl139) (keepAt kp139) (by kernel_rfl)
end Go.Aug
