/- The abstract layer: abstract values and heaps, what code does to them, the conditions of its operations as equations; no conditions of its own. -/
import Derived.Test.YtejfagblpbmokaaDoorAugFour
import Derived.Defers
import Derived.DefersIn
import Derived.RecoverIn
import Derived.Below
set_option linter.all false
set_option linter.unusedVariables false
set_option linter.unusedSimpArgs false
set_option linter.unusedSectionVars false

/-
  The abstract layer, part X: what is handed back out of a variable. (LiveT has these lines, too: never both in one claim.)
-/
namespace Go.Aug
def resD : Option AObj → Nat → Option (Bool × Nat) → Option A
  | some (.var cs), off, some (true, n) => if off + n ≤ cs.length then some (aggN ((cs.drop off).take n)) else none
  | some (.var cs), off, some (false, _) => cs[off]?
  | _, _, _ => none
def resC : A → Heap → Option (Bool × Nat) → Option A
  | .ref b off, H, s => resD (H b) off s
  | _, _, _ => none
@[go_sem] theorem resOf_cell {P : Program} {V : Env} {N : Nat} {F : Nat → A} {H : Heap} {a : Nat} {t : TypeId} : resOf P V N F H (.cell a t) = resC (ev V N F (.tmp a)) H (tshape P t) := by
  simp only [resOf]
  generalize ev V N F (.tmp a) = x
  cases x with
  | ref b off =>
    simp only [resC]
    generalize H b = o
    cases o with
    | none => rfl
    | some o =>
      cases o with
      | var cs =>
        cases tshape P t with
        | none => rfl
        | some s => obtain ⟨g, n⟩ := s; cases g <;> rfl
      | _ => rfl
  | _ => rfl
@[go_sem] theorem resC_ref {b off : Nat} {H : Heap} {s : Option (Bool × Nat)} : resC (.ref b off) H s = resD (H b) off s := Eq.trans rfl rfl
@[go_sem] theorem resD_agg {cs : List A} {off n : Nat} (h : off + n ≤ cs.length) : resD (some (.var cs)) off (some (true, n)) = some (aggN ((cs.drop off).take n)) := if_pos h
@[go_sem] theorem resD_one {cs : List A} {off n : Nat} : resD (some (.var cs)) off (some (false, n)) = cs[off]? := Eq.trans rfl rfl
end Go.Aug

/-
  The abstract layer: calls whose world behind is known to be no other below; functions that defer one closure.
-/
namespace Go.Aug
open Go.RowKit
section
variable {P : Program} {V : Env} {N : Nat} {Z : Nat → Prop} {H : Heap} {w w' : World}
/-- What is called with nothing at hand leaves what is at hand. -/
theorem ACall.keep {f : FuncId} {args : List A} {K : A → Prop} (h : ACall P V f args (fun _ => none) (fun r _ => K r)) : ACall P V f args H (fun r H' => K r ∧ H' = H) := by
  intro Z w cv hl hr m
  have no : ∀ b, ¬ Own (fun _ => none) b := fun b ⟨o, ho, _⟩ => by cases ho
  refine (h Z w cv hl hr (m.le fun b o hb => by cases hb)).mono ?_
  rintro e w' ⟨v, r, Z', H', rfl, rr, m', x', k⟩
  have kk : Keeps Z w Z' w' := x'.keeps (fun b hb => (no b hb).elim)
  refine ⟨v, r, Z', H, rfl, rr, ⟨?_, m'.zlt, m'.env, fun b o hb => Nat.lt_of_lt_of_le (m.lt b o hb) x'.size⟩, ?_, k, rfl⟩
  · intro b o hb
    exact (m.heap b o hb).keep kk fun hw => ⟨x'.zold b (m.own b ⟨o, hb, hw⟩) (no b), x'.block b (m.lt b o hb) (no b)⟩
  · exact ⟨x'.os, x'.tape, x'.output, x'.size, fun b hb _ => x'.block b hb (no b), x'.znew, fun b hz _ => x'.zold b hz (no b), fun b hb => .inl hb⟩
end
end Go.Aug
