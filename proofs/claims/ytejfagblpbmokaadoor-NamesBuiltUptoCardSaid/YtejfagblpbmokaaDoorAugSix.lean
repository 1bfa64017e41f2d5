/- The abstract layer: abstract values and heaps, what code does to them, the conditions of its operations as equations; no conditions of its own. -/
import Derived.Test.YtejfagblpbmokaaDoorAugFour
set_option linter.all false
set_option linter.unusedVariables false
set_option linter.unusedSimpArgs false
set_option linter.unusedSectionVars false

/-
  The abstract layer, part X: what is handed back out of a variable. (LiveT has these lines, too: never both in one claim.)
-/
namespace Go.Aug
def resD : Option AObj → Nat → Option (Bool × Nat) → Option A
  | some (.var cs), off, some (true, n) => if off + n ≤ cs.length then some (aggN ((cs.drop off).take n)) else none
  | some (.var cs), off, some (false, _) => cs[off]?
  | _, _, _ => none
def resC : A → Heap → Option (Bool × Nat) → Option A
  | .ref b off, H, s => resD (H b) off s
  | _, _, _ => none
@[go_sem] theorem resOf_cell {P : Program} {V : Env} {N : Nat} {F : Nat → A} {H : Heap} {a : Nat} {t : TypeId} : resOf P V N F H (.cell a t) = resC (ev V N F (.tmp a)) H (tshape P t) := by
  simp only [resOf]
  generalize ev V N F (.tmp a) = x
  cases x with
  | ref b off =>
    simp only [resC]
    generalize H b = o
    cases o with
    | none => rfl
    | some o =>
      cases o with
      | var cs =>
        cases tshape P t with
        | none => rfl
        | some s => obtain ⟨g, n⟩ := s; cases g <;> rfl
      | _ => rfl
  | _ => rfl
@[go_sem] theorem resC_ref {b off : Nat} {H : Heap} {s : Option (Bool × Nat)} : resC (.ref b off) H s = resD (H b) off s := Eq.trans rfl rfl
@[go_sem] theorem resD_agg {cs : List A} {off n : Nat} (h : off + n ≤ cs.length) : resD (some (.var cs)) off (some (true, n)) = some (aggN ((cs.drop off).take n)) := if_pos h
end Go.Aug
