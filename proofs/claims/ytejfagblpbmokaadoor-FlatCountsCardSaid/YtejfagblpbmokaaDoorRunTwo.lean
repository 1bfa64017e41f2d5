/- An evaluator for closed calls that the kernel reckons, and its soundness; no conditions. -/
import Derived.Test.YtejfagblpbmokaaDoorRunOne
import Derived.Test.YtejfagblpbmokaaDoorAugFive
set_option linter.all false
set_option linter.unusedVariables false
set_option linter.unusedSimpArgs false
set_option linter.unusedSectionVars false

/-
  The abstract layer, closed runs, part E: functions that defer one closure, reckoned where they return.
-/
namespace Go.Aug
section
variable {P : Program} {V : Env}
/-- What is handed back is let go. -/
theorem ACall.deepen {f : FuncId} {args : List A} {H : Heap} {K : A → Heap → Prop} (h : ACall P V f args H fun r H' => deepK H' r fun d H'' => K (.d d) H'') : ACall P V f args H K :=
  fun Z w cv hl hr m => (h Z w cv hl hr m).mono fun _ _ ⟨v, r, _, _, he, rr, m', x, k⟩ =>
    let ⟨d, H1, Z1, r1, m1, x1, k'⟩ := deepK_sound r k m' rr
    ⟨v, .d d, Z1, H1, he, .d _ _ r1, m1, x.trans m.zlt x1, k'⟩
end
end Go.Aug
