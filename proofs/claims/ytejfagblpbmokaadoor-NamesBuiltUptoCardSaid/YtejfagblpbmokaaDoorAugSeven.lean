/- The abstract layer: abstract values and heaps, what code does to them, the conditions of its operations as equations; no conditions of its own. -/
import Derived.Test.YtejfagblpbmokaaDoorAugSix
import Derived.Defers
import Derived.Below
set_option linter.all false
set_option linter.unusedVariables false
set_option linter.unusedSimpArgs false
set_option linter.unusedSectionVars false

/-
  The abstract layer: calls whose world behind is known to be no other below; functions that defer one closure.
-/
namespace Go.Aug
open Go.RowKit
section
variable {P : Program} {V : Env} {N : Nat} {Z : Nat → Prop} {H : Heap} {w w' : World}
end
end Go.Aug
